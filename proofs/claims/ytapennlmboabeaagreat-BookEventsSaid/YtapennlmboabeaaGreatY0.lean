import Derived.Test.YtapennlmboabeaaGreatVi25
import Derived.Test.YtapennlmboabeaaGreatProg
set_option linter.unusedVariables false
set_option linter.unusedSimpArgs false
set_option linter.unnecessarySimpa false
namespace Go.Proofs.YtapennlmboabeaaGreat
open Go Go.Vi
set_option maxRecDepth 100000
def c4_0 : LC := .ops [oo 4 (.box (.t 0)), oo 7 (.box (.t 3)), oo 8 (.mov (.c (.bool false)))]
def c4_1 : LC := .ops [oo 22 (.load (some 4) (.t 4)), kc 23 5 [.t 22], om 24 23, og 25 24 false (.load (some 16) (.t 7)), gk 26 24 false 19 [.t 25], pt 27 24 26]
def c4_2 : LC := .ops [kc 28 7 [], om 8 28]
def c4_8 : LC := .ops [oo 29 (.load (some 4) (.t 4)), kc 30 8 [.t 29], oo 9 (.alloc [.int .i64 0, .list (some true) true [], .list (some true) true [], .list (some true) true []]), .mk none none (.store 4 (.t 9) (.t 30))]
def c4_9 : LC := .ops [oo 32 (.load (some 4) (.t 4)), om 33 1, om 34 2, oo 35 (.load (some 16) (.t 7)), kc 36 20 [.t 32, .t 33, .t 34, .t 35], om 31 36, oo 37 (.ext 0 (.t 31)), oo 38 (.ext 1 (.t 31)), oo 39 (.ext 2 (.t 31)), oo 10 (.alloc [.int .i64 0, .list (some true) true [], .list (some true) true [], .list (some true) true []]), .mk none none (.store 4 (.t 10) (.t 37)), om 11 38, om 12 39]
def c4_10 : LC := .ops [oo 40 (.load (some 4) (.t 4)), om 41 1, om 42 2, oo 43 (.load (some 16) (.t 7)), kc 44 21 [.t 40, .t 41, .t 42, .t 43], oo 13 (.alloc [.int .i64 0, .list (some true) true [], .list (some true) true [], .list (some true) true [], .int .u64 0, .int .i64 0]), .mk none none (.store 6 (.t 13) (.t 44))]
def c4_11 : LC := .ops [oo 45 (.load (some 4) (.t 10)), oa 46 0 13, oo 47 (.load (some 4) (.t 46)), kc 48 11 [.t 45, .t 47], oo 49 (.un .not (.t 48)), om 50 49, gm 51 50 false 11, ga 52 50 false 4 13, gl 53 50 false 52, og 54 50 false (.bin .neq (.t 51) (.t 53)), pt 55 50 54, om 56 55, gm 57 56 false 12, ga 58 56 false 5 13, gl 59 56 false 58, og 60 56 false (.bin .neq (.t 57) (.t 59)), pt 61 56 60]
def c4_12 : LC := .ops [oo 8 (.mov (.c (.bool false)))]
def c4_18 : LC := .ops [oo 63 (.load (some 4) (.t 4)), om 64 1, om 65 2, kc 66 22 [.t 63, .t 64, .t 65], om 62 66, oo 67 (.ext 0 (.t 62)), oo 68 (.ext 1 (.t 62)), oo 69 (.ext 2 (.t 62)), oo 14 (.alloc [.int .i64 0, .list (some true) true [], .list (some true) true [], .list (some true) true []]), .mk none none (.store 4 (.t 14) (.t 67)), om 15 68, om 16 69]
def c4_19 : LC := .ops [oo 70 (.load (some 4) (.t 4)), om 71 1, om 72 2, kc 73 23 [.t 70, .t 71, .t 72], oo 17 (.alloc [.int .i64 0, .list (some true) true [], .list (some true) true [], .list (some true) true [], .int .u64 0, .int .i64 0]), .mk none none (.store 6 (.t 17) (.t 73))]
def c4_20 : LC := .ops [oo 74 (.load (some 4) (.t 14)), oa 75 0 17, oo 76 (.load (some 4) (.t 75)), kc 77 11 [.t 74, .t 76], oo 78 (.un .not (.t 77)), om 79 78, gm 80 79 false 15, ga 81 79 false 4 17, gl 82 79 false 81, og 83 79 false (.bin .neq (.t 80) (.t 82)), pt 84 79 83, om 85 84, gm 86 85 false 16, ga 87 85 false 5 17, gl 88 85 false 87, og 89 85 false (.bin .neq (.t 86) (.t 88)), pt 90 85 89, om 91 90, og 92 91 false (.load (some 4) (.t 4)), og 93 91 false (.load (some 4) (.t 9)), gk 94 91 false 11 [.t 92, .t 93], og 95 91 false (.un .not (.t 94)), pt 96 91 95]
def c4_21 : LC := .ops [oo 8 (.mov (.c (.bool false)))]
def c4_27 : LC := .ops [oo 98 (.load (some 4) (.t 4)), om 99 1, om 100 2, kc 101 24 [.t 98, .t 99, .t 100], om 97 101, oo 102 (.ext 0 (.t 97)), oo 103 (.ext 1 (.t 97)), oo 18 (.alloc [.int .i64 0, .int .i64 0, .bool false, .bool false, .int .i64 0, .int .i64 0, .int .i64 0, .int .i64 0, .list (some true) true [], .list (some true) true [], .list (some true) true [], .list (some true) true [], .int .i64 0, .list (some true) true [], .list (some true) true [], .list (some true) true []]), .mk none none (.store 16 (.t 18) (.t 102)), om 19 103]
def c4_28 : LC := .ops [oo 105 (.load (some 4) (.t 4)), om 106 1, om 107 2, kc 108 25 [.t 105, .t 106, .t 107], om 104 108, oo 109 (.ext 0 (.t 104)), oo 110 (.ext 1 (.t 104)), oo 20 (.alloc [.int .i64 0, .int .i64 0, .bool false, .bool false, .int .i64 0, .int .i64 0, .int .i64 0, .int .i64 0, .list (some true) true [], .list (some true) true [], .list (some true) true [], .list (some true) true [], .int .i64 0, .list (some true) true [], .list (some true) true [], .list (some true) true []]), .mk none none (.store 16 (.t 20) (.t 109)), om 21 110]
def c4_29 : LC := .ops [kc 111 7 [], om 112 111, gm 113 112 true 19, gm 114 112 true 21, og 115 112 true (.eq .bool false (.t 113) (.t 114)), pf 116 112 115, om 117 116, og 118 117 true (.load (some 16) (.t 18)), og 119 117 true (.load (some 16) (.t 20)), gk 120 117 true 26 [.t 118, .t 119], pf 121 117 120, om 8 121]
def c4_42 : LC := .seq c4_0 (.seq (.seq c4_1 (.cond (.t 27) (.seq c4_2 .ret) .skip)) (.seq c4_8 (.seq c4_9 (.seq c4_10 (.seq (.seq c4_11 (.cond (.t 61) (.seq c4_12 .ret) .skip)) (.seq c4_18 (.seq c4_19 (.seq (.seq c4_20 (.cond (.t 96) (.seq c4_21 .ret) .skip)) (.seq c4_27 (.seq c4_28 (.seq c4_29 .ret)))))))))))
def c4 : LF := .mk 122 c4_42 [.tmp 8]
theorem low4 : al Tryz.prog Tryz.f4 = some c4 := by kernel_rfl
def c5_0 : LC := .ops [oo 1 (.box (.t 0)), oo 2 (.mov (.c (.bool false)))]
def c5_1 : LC := .ops [oo 3 (.load (some 4) (.t 1)), kc 4 27 [.t 3], om 5 4, og 6 5 false (.load (some 4) (.t 1)), gk 7 5 false 28 [.t 6], og 8 5 false (.un .not (.t 7)), pt 9 5 8, om 2 9]
def c5_4 : LC := .seq c5_0 (.seq c5_1 .ret)
def c5 : LF := .mk 10 c5_4 [.tmp 2]
theorem low5 : al Tryz.prog Tryz.f5 = some c5 := by kernel_rfl
def c6_0 : LC := .ops [oo 1 (.box (.t 0)), oo 2 (.mov (.c (.bool false)))]
def c6_1 : LC := .ops [oa 3 0 1, oa 4 1 3, ol 5 4, on 6 5, oo 7 (.bin .gtr (.t 6) (.c (.int .i64 100))), om 8 7, ga 9 8 false 2 1, ga 10 8 false 0 9, gl 11 8 false 10, og 12 8 false (.len false (.t 11)), og 13 8 false (.bin .gtr (.t 12) (.c (.int .i64 30))), pt 14 8 13, om 15 14, ga 16 15 false 2 1, ga 17 15 false 1 16, gl 18 15 false 17, og 19 15 false (.len false (.t 18)), og 20 15 false (.bin .gtr (.t 19) (.c (.int .i64 100))), pt 21 15 20, om 2 21]
def c6_4 : LC := .seq c6_0 (.seq c6_1 .ret)
def c6 : LF := .mk 22 c6_4 [.tmp 2]
theorem low6 : al Tryz.prog Tryz.f6 = some c6 := by kernel_rfl
def c7_0 : LC := .ops [oo 0 (.mov (.c (.bool false)))]
def c7_1 : LC := .ops [oo 5 (.build [.int .i64 0, .list (some true) true [], .list (some true) true [], .list (some true) true []] []), oo 6 (.build [.int .i64 0, .list (some true) true [], .list (some true) true [], .list (some true) true [], .int .i64 0, .int .i64 0] []), kc 7 9 [.t 5, .c (.int .u32 5), .t 6], om 4 7, oo 8 (.ext 0 (.t 4)), oo 9 (.ext 1 (.t 4)), oo 10 (.ext 2 (.t 4)), oo 1 (.alloc [.int .i64 0, .list (some true) true [], .list (some true) true [], .list (some true) true []]), .mk none none (.store 4 (.t 1) (.t 8)), om 2 9, om 3 10]
def c7_2 : LC := .ops [om 11 3, oo 12 (.bin .eql (.t 11) (.c (.int .i64 0))), om 13 12, gm 14 13 true 2, og 15 13 true (.bin .eql (.t 14) (.c (.int .u64 1))), pf 16 13 15, om 17 16, ga 18 17 true 1 1, gl 19 17 true 18, og 20 17 true (.len false (.t 19)), og 21 17 true (.bin .eql (.t 20) (.c (.int .i64 1))), pf 22 17 21, om 23 22, ga 24 23 true 1 1, gl 25 23 true 24, og 26 23 true (.iaddr 9 (.t 25) (.c (.int .i64 0))), ga 27 23 true 0 26, gl 28 23 true 27, og 29 23 true (.bin .eql (.t 28) (.c (.int .u32 5))), pf 30 23 29, om 0 30]
def c7_6 : LC := .seq c7_0 (.seq c7_1 (.seq c7_2 .ret))
def c7 : LF := .mk 31 c7_6 [.tmp 0]
theorem low7 : al Tryz.prog Tryz.f7 = some c7 := by kernel_rfl
def c8_0 : LC := .ops [oo 1 (.box (.t 0)), oo 2 (.alloc [.int .i64 0, .list (some true) true [], .list (some true) true [], .list (some true) true []])]
def c8_1 : LC := .ops [oo 8 (.load (some 4) (.t 1)), kc 9 29 [.t 8], om 7 9, oo 10 (.ext 0 (.t 7)), oo 11 (.ext 1 (.t 7)), om 3 10, om 4 11]
def c8_2 : LC := .ops [om 12 4, oo 13 (.un .not (.t 12))]
def c8_3 : LC := .ops [oo 14 (.load (some 4) (.t 1)), .mk none none (.store 4 (.t 2) (.t 14))]
def c8_9 : LC := .ops [om 16 3, kc 17 30 [.t 16], om 15 17, oo 18 (.ext 0 (.t 15)), oo 19 (.ext 1 (.t 15)), oo 5 (.alloc [.int .i64 0, .list (some true) true [], .list (some true) true [], .list (some true) true []]), .mk none none (.store 4 (.t 5) (.t 18)), om 6 19]
def c8_10 : LC := .ops [oo 20 (.load (some 4) (.t 5)), .mk none none (.store 4 (.t 2) (.t 20))]
def c8_16 : LC := .seq c8_0 (.seq c8_1 (.seq (.seq c8_2 (.cond (.t 13) (.seq c8_3 .ret) .skip)) (.seq c8_9 (.seq c8_10 .ret))))
def c8 : LF := .mk 21 c8_16 [.cell 2 (some 4)]
theorem low8 : al Tryz.prog Tryz.f8 = some c8 := by kernel_rfl
def c9_0 : LC := .ops [oo 3 (.box (.t 0)), oo 5 (.box (.t 2)), oo 6 (.alloc [.int .i64 0, .list (some true) true [], .list (some true) true [], .list (some true) true []]), oo 7 (.mov (.c (.int .u64 0))), oo 8 (.mov (.c (.int .i64 0)))]
def c9_1 : LC := .ops [oo 13 (.load (some 4) (.t 3)), om 14 1, kc 15 31 [.t 13, .t 14], om 12 15, oo 16 (.ext 0 (.t 12)), oo 17 (.ext 1 (.t 12)), om 9 16, om 10 17]
def c9_2 : LC := .ops [om 19 1, oo 20 (.bin .eql (.t 19) (.c (.int .u32 0))), om 21 20, og 22 21 false (.load (some 6) (.t 5)), gk 23 21 false 12 [.t 22], og 24 21 false (.un .not (.t 23)), pt 25 21 24, om 18 25]
def c9_3 : LC := .ops [oo 26 (.load (some 4) (.t 3)), .mk none none (.store 4 (.t 6) (.t 26)), oo 7 (.mov (.c (.int .u64 0))), oo 8 (.mov (.c (.int .i64 2)))]
def c9_6 : LC := .ops [om 28 10, oo 29 (.un .not (.t 28)), om 30 29, ga 31 30 true 1 3, gl 32 30 true 31, og 33 30 true (.len false (.t 32)), og 34 30 true (.bin .geq (.t 33) (.c (.int .i64 100))), pf 35 30 34, om 27 35]
def c9_7 : LC := .ops [oo 36 (.load (some 4) (.t 3)), .mk none none (.store 4 (.t 6) (.t 36)), oo 7 (.mov (.c (.int .u64 0))), oo 8 (.mov (.c (.int .i64 6)))]
def c9_16 : LC := .ops [om 37 1, oo 38 (.build [.int .u32 0, .int .i64 0, .list (some true) true [], .list (some true) true [], .list (some true) true [], .int .i64 0, .int .i64 0, .int .u64 0, .list (some true) true []] [(0, 1, .t 37)]), oo 11 (.alloc [.int .u32 0, .int .i64 0, .list (some true) true [], .list (some true) true [], .list (some true) true [], .int .i64 0, .int .i64 0, .int .u64 0, .list (some true) true []]), .mk none none (.store 9 (.t 11) (.t 38))]
def c9_17 : LC := .ops [om 39 10]
def c9_18 : LC := .ops [oa 40 1 3, ol 41 40, om 42 9, oo 43 (.iaddr 9 (.t 41) (.t 42)), oo 44 (.load (some 9) (.t 43)), .mk none none (.store 9 (.t 11) (.t 44))]
def c9_22 : LC := .ops [oo 45 (.load (some 6) (.t 5)), oa 46 1 11, .mk none none (.store 6 (.t 46) (.t 45))]
def c9_23 : LC := .ops [oa 47 7 11, ol 48 47, oo 49 (.bin .add (.t 48) (.c (.int .u64 1))), oa 50 7 11, .mk none none (.store 1 (.t 50) (.t 49))]
def c9_24 : LC := .opsX [(oo 51 (.load (some 4) (.t 3)), []), (om 52 9, []), (om 53 10, []), (oo 54 (.load (some 9) (.t 11)), []), (kx 55 32 [.t 51, .t 52, .t 53, .t 54], [56]), (oa 56 7 11, []), (ol 57 56, []), (.mk none none (.store 4 (.t 6) (.t 55)), [56]), (om 7 57, []), (oo 8 (.mov (.c (.int .i64 0))), [])]
def c9_33 : LC := .seq c9_0 (.seq c9_1 (.seq (.block 0 (.seq c9_2 (.cond (.t 18) (.seq c9_3 .ret) (.seq c9_6 (.cond (.t 27) (.seq c9_7 .ret) .skip))))) (.seq c9_16 (.seq (.seq c9_17 (.cond (.t 39) c9_18 .skip)) (.seq c9_22 (.seq c9_23 (.seq c9_24 .ret)))))))
def c9 : LF := .mk 58 c9_33 [.cell 6 (some 4), .tmp 7, .tmp 8]
theorem low9 : al Tryz.prog Tryz.f9 = some c9 := by kernel_rfl
def c11_0 : LC := .ops [oo 2 (.box (.t 0)), oo 3 (.box (.t 1)), oo 4 (.mov (.c (.bool false)))]
def c11_1 : LC := .ops [oa 8 0 2, ol 9 8, oa 10 0 3, ol 11 10, kb 12 .neq 9 11, om 13 12, ga 14 13 false 1 2, gl 15 13 false 14, og 16 13 false (.len false (.t 15)), ga 17 13 false 1 3, gl 18 13 false 17, og 19 13 false (.len false (.t 18)), og 20 13 false (.bin .neq (.t 16) (.t 19)), pt 21 13 20, om 22 21, ga 23 22 false 2 2, gl 24 22 false 23, og 25 22 false (.len false (.t 24)), ga 26 22 false 2 3, gl 27 22 false 26, og 28 22 false (.len false (.t 27)), og 29 22 false (.bin .neq (.t 25) (.t 28)), pt 30 22 29, om 31 30, ga 32 31 false 3 2, gl 33 31 false 32, og 34 31 false (.len false (.t 33)), ga 35 31 false 3 3, gl 36 31 false 35, og 37 31 false (.len false (.t 36)), og 38 31 false (.bin .neq (.t 34) (.t 37)), pt 39 31 38]
def c11_2 : LC := .ops [oo 4 (.mov (.c (.bool false)))]
def c11_8 : LC := .ops [oa 40 1 2, ol 41 40, on 42 41, oo 43 (.mov (.c (.int .i64 0)))]
def c11_9 : LC := .ops [kb 44 .lss 43 42]
def c11_12 : LC := .ops [om 45 43, om 5 45]
def c11_13 : LC := .opsX [(oa 46 1 2, []), (ol 47 46, []), (om 48 5, []), (oo 49 (.iaddr 9 (.t 47) (.t 48)), []), (oo 50 (.load (some 9) (.t 49)), []), (oa 51 1 3, []), (ol 52 51, []), (om 53 5, []), (oo 54 (.iaddr 9 (.t 52) (.t 53)), []), (oo 55 (.load (some 9) (.t 54)), []), (kx 56 18 [.t 50, .t 55], []), (oo 57 (.un .not (.t 56)), [])]
def c11_14 : LC := .ops [oo 4 (.mov (.c (.bool false)))]
def c11_22 : LC := .ops [oo 58 (.bin .add (.t 43) (.c (.int .i64 1))), om 43 58]
def c11_29 : LC := .ops [oa 59 2 2, ol 60 59, on 61 60, oo 62 (.mov (.c (.int .i64 0)))]
def c11_30 : LC := .ops [kb 63 .lss 62 61]
def c11_33 : LC := .ops [om 64 62, om 6 64]
def c11_34 : LC := .opsX [(oa 65 2 2, []), (ol 66 65, []), (om 67 6, []), (oo 68 (.iaddr 16 (.t 66) (.t 67)), []), (oo 69 (.load (some 16) (.t 68)), []), (oa 70 2 3, []), (ol 71 70, []), (om 72 6, []), (oo 73 (.iaddr 16 (.t 71) (.t 72)), []), (oo 74 (.load (some 16) (.t 73)), []), (kx 75 34 [.t 69, .t 74], []), (oo 76 (.un .not (.t 75)), [])]
def c11_35 : LC := .ops [oo 4 (.mov (.c (.bool false)))]
def c11_43 : LC := .ops [oo 77 (.bin .add (.t 62) (.c (.int .i64 1))), om 62 77]
def c11_50 : LC := .ops [oa 78 3 2, ol 79 78, on 80 79, oo 81 (.mov (.c (.int .i64 0)))]
def c11_51 : LC := .ops [kb 82 .lss 81 80]
def c11_54 : LC := .ops [om 83 81, om 7 83]
def c11_55 : LC := .opsX [(oa 84 3 2, []), (ol 85 84, []), (om 86 7, []), (oo 87 (.iaddr 3 (.t 85) (.t 86)), []), (oo 88 (.load (some 3) (.t 87)), []), (oa 89 3 3, []), (ol 90 89, []), (om 91 7, []), (oo 92 (.iaddr 3 (.t 90) (.t 91)), []), (oo 93 (.load (some 3) (.t 92)), []), (oo 94 (.eq (.row [.int, .int, .int]) true (.t 88) (.t 93)), [])]
def c11_56 : LC := .ops [oo 4 (.mov (.c (.bool false)))]
def c11_64 : LC := .ops [oo 95 (.bin .add (.t 81) (.c (.int .i64 1))), om 81 95]
def c11_71 : LC := .ops [oo 4 (.mov (.c (.bool true)))]
def c11_78 : LC := .seq c11_0 (.seq (.seq c11_1 (.cond (.t 39) (.seq c11_2 .ret) .skip)) (.seq (.seq c11_8 (.block 0 (.loop (.seq c11_9 (.seq (.cond (.t 44) .skip (.exit 0)) (.seq (.block 1 (.seq c11_12 (.seq c11_13 (.cond (.t 57) (.seq c11_14 .ret) .skip)))) c11_22)))))) (.seq (.seq c11_29 (.block 2 (.loop (.seq c11_30 (.seq (.cond (.t 63) .skip (.exit 2)) (.seq (.block 3 (.seq c11_33 (.seq c11_34 (.cond (.t 76) (.seq c11_35 .ret) .skip)))) c11_43)))))) (.seq (.seq c11_50 (.block 4 (.loop (.seq c11_51 (.seq (.cond (.t 82) .skip (.exit 4)) (.seq (.block 5 (.seq c11_54 (.seq c11_55 (.cond (.t 94) (.seq c11_56 .ret) .skip)))) c11_64)))))) (.seq c11_71 .ret)))))
def c11 : LF := .mk 96 c11_78 [.tmp 4]
theorem low11 : al Tryz.prog Tryz.f11 = some c11 := by kernel_rfl
def c12_0 : LC := .ops [oo 1 (.box (.t 0)), oo 2 (.mov (.c (.bool false)))]
def c12_1 : LC := .ops [oa 3 0 1, oo 4 (.load (some 2) (.t 3)), kc 5 35 [.t 4], om 6 5, ga 7 6 true 2 1, og 8 6 true (.load (some 2) (.t 7)), gk 9 6 true 36 [.t 8], pf 10 6 9, om 11 10, ga 12 11 true 4 1, gl 13 11 true 12, og 14 11 true (.bin .geq (.t 13) (.c (.int .i64 0))), pf 15 11 14, om 16 15, ga 17 16 true 4 1, gl 18 16 true 17, og 19 16 true (.bin .leq (.t 18) (.c (.int .i64 240))), pf 20 16 19, om 21 20, ga 22 21 true 5 1, gl 23 21 true 22, og 24 21 true (.bin .geq (.t 23) (.c (.int .i64 0))), pf 25 21 24, om 26 25, ga 27 26 true 5 1, gl 28 26 true 27, og 29 26 true (.bin .leq (.t 28) (.c (.int .i64 240))), pf 30 26 29, om 2 30]
def c12_4 : LC := .seq c12_0 (.seq c12_1 .ret)
def c12 : LF := .mk 31 c12_4 [.tmp 2]
theorem low12 : al Tryz.prog Tryz.f12 = some c12 := by kernel_rfl
def c16_0 : LC := .ops [oo 2 (.box (.t 0)), oo 4 (.alloc [.int .u32 0, .int .i64 0, .list (some true) true [], .list (some true) true [], .list (some true) true [], .int .i64 0, .int .i64 0, .int .u64 0, .list (some true) true []]), oo 5 (.mov (.c (.bool false)))]
def c16_1 : LC := .ops [oo 9 (.load (some 4) (.t 2)), om 10 1, kc 11 31 [.t 9, .t 10], om 8 11, oo 12 (.ext 0 (.t 8)), oo 13 (.ext 1 (.t 8)), om 6 12, om 7 13]
def c16_2 : LC := .ops [om 14 7, oo 15 (.un .not (.t 14))]
def c16_3 : LC := .ops [oo 16 (.build [.int .u32 0, .int .i64 0, .list (some true) true [], .list (some true) true [], .list (some true) true [], .int .i64 0, .int .i64 0, .int .u64 0, .list (some true) true []] []), .mk none none (.store 9 (.t 4) (.t 16)), oo 5 (.mov (.c (.bool false)))]
def c16_9 : LC := .ops [oa 17 1 2, ol 18 17, om 19 6, oo 20 (.iaddr 9 (.t 18) (.t 19)), oo 21 (.load (some 9) (.t 20)), .mk none none (.store 9 (.t 4) (.t 21)), oo 5 (.mov (.c (.bool true)))]
def c16_14 : LC := .seq c16_0 (.seq c16_1 (.seq (.seq c16_2 (.cond (.t 15) (.seq c16_3 .ret) .skip)) (.seq c16_9 .ret)))
def c16 : LF := .mk 22 c16_14 [.cell 4 (some 9), .tmp 5]
theorem low16 : al Tryz.prog Tryz.f16 = some c16 := by kernel_rfl
def c17_0 : LC := .ops [oo 2 (.box (.t 0)), oo 4 (.alloc [.int .u32 0, .int .i64 0, .list (some true) true [], .list (some true) true [], .list (some true) true [], .int .i64 0, .int .i64 0, .int .u64 0, .list (some true) true []]), oo 5 (.mov (.c (.bool false)))]
def c17_1 : LC := .ops [oa 7 1 2, ol 8 7, on 9 8, oo 10 (.mov (.c (.int .i64 0)))]
def c17_2 : LC := .ops [kb 11 .lss 10 9]
def c17_5 : LC := .ops [om 12 10, om 6 12]
def c17_6 : LC := .ops [oa 13 1 2, ol 14 13, om 15 6, oo 16 (.iaddr 9 (.t 14) (.t 15)), oa 17 0 16, ol 18 17, om 19 1, kb 20 .eql 18 19]
def c17_7 : LC := .ops [oa 21 1 2, ol 22 21, om 23 6, oo 24 (.iaddr 9 (.t 22) (.t 23)), oo 25 (.load (some 9) (.t 24)), .mk none none (.store 9 (.t 4) (.t 25)), oo 5 (.mov (.c (.bool true)))]
def c17_15 : LC := .ops [oo 26 (.bin .add (.t 10) (.c (.int .i64 1))), om 10 26]
def c17_22 : LC := .ops [oo 27 (.build [.int .u32 0, .int .i64 0, .list (some true) true [], .list (some true) true [], .list (some true) true [], .int .i64 0, .int .i64 0, .int .u64 0, .list (some true) true []] []), .mk none none (.store 9 (.t 4) (.t 27)), oo 5 (.mov (.c (.bool false)))]
def c17_26 : LC := .seq c17_0 (.seq (.seq c17_1 (.block 0 (.loop (.seq c17_2 (.seq (.cond (.t 11) .skip (.exit 0)) (.seq (.block 1 (.seq c17_5 (.seq c17_6 (.cond (.t 20) (.seq c17_7 .ret) .skip)))) c17_15)))))) (.seq c17_22 .ret))
def c17 : LF := .mk 28 c17_26 [.cell 4 (some 9), .tmp 5]
theorem low17 : al Tryz.prog Tryz.f17 = some c17 := by kernel_rfl
def c18_0 : LC := .ops [oo 2 (.box (.t 0)), oo 3 (.box (.t 1)), oo 4 (.mov (.c (.bool false)))]
def c18_1 : LC := .ops [oa 6 0 2, ol 7 6, oa 8 0 3, ol 9 8, kb 10 .neq 7 9, om 11 10, ga 12 11 false 7 2, gl 13 11 false 12, ga 14 11 false 7 3, gl 15 11 false 14, og 16 11 false (.bin .neq (.t 13) (.t 15)), pt 17 11 16, om 18 17, ga 19 18 false 1 2, og 20 18 false (.load (some 6) (.t 19)), ga 21 18 false 1 3, og 22 18 false (.load (some 6) (.t 21)), gk 23 18 false 44 [.t 20, .t 22], og 24 18 false (.un .not (.t 23)), pt 25 18 24, om 26 25, ga 27 26 false 8 2, gl 28 26 false 27, og 29 26 false (.len false (.t 28)), ga 30 26 false 8 3, gl 31 26 false 30, og 32 26 false (.len false (.t 31)), og 33 26 false (.bin .neq (.t 29) (.t 32)), pt 34 26 33]
def c18_2 : LC := .ops [oo 4 (.mov (.c (.bool false)))]
def c18_8 : LC := .ops [oa 35 8 2, ol 36 35, on 37 36, oo 38 (.mov (.c (.int .i64 0)))]
def c18_9 : LC := .ops [kb 39 .lss 38 37]
def c18_12 : LC := .ops [om 40 38, om 5 40]
def c18_13 : LC := .opsX [(oa 41 8 2, []), (ol 42 41, []), (om 43 5, []), (oo 44 (.iaddr 17 (.t 42) (.t 43)), []), (oa 45 0 44, []), (ol 46 45, []), (oa 47 8 3, []), (ol 48 47, []), (om 49 5, []), (oo 50 (.iaddr 17 (.t 48) (.t 49)), []), (oa 51 0 50, []), (ol 52 51, []), (kb 53 .neq 46 52, []), (om 54 53, []), (ga 55 54 false 8 2, []), (gl 56 54 false 55, []), (gm 57 54 false 5, []), (og 58 54 false (.iaddr 17 (.t 56) (.t 57)), []), (ga 59 54 false 1 58, []), (og 60 54 false (.load (some 16) (.t 59)), []), (ga 61 54 false 8 3, []), (gl 62 54 false 61, []), (gm 63 54 false 5, []), (og 64 54 false (.iaddr 17 (.t 62) (.t 63)), []), (ga 65 54 false 1 64, []), (og 66 54 false (.load (some 16) (.t 65)), []), (og 67 54 false (.callX (.c (.fn 26 [])) [.t 60, .t 66]), []), (og 68 54 false (.un .not (.t 67)), []), (pt 69 54 68, [])]
def c18_14 : LC := .ops [oo 4 (.mov (.c (.bool false)))]
def c18_22 : LC := .ops [oo 70 (.bin .add (.t 38) (.c (.int .i64 1))), om 38 70]
def c18_29 : LC := .ops [oo 4 (.mov (.c (.bool true)))]
def c18_34 : LC := .seq c18_0 (.seq (.seq c18_1 (.cond (.t 34) (.seq c18_2 .ret) .skip)) (.seq (.seq c18_8 (.block 0 (.loop (.seq c18_9 (.seq (.cond (.t 39) .skip (.exit 0)) (.seq (.block 1 (.seq c18_12 (.seq c18_13 (.cond (.t 69) (.seq c18_14 .ret) .skip)))) c18_22)))))) (.seq c18_29 .ret)))
def c18 : LF := .mk 71 c18_34 [.tmp 4]
theorem low18 : al Tryz.prog Tryz.f18 = some c18 := by kernel_rfl
def c19_0 : LC := .ops [oo 1 (.box (.t 0)), oo 2 (.mov (.c (.bool false)))]
def c19_1 : LC := .ops [oa 3 13 1, ol 4 3, on 5 4, oo 6 (.bin .gtr (.t 5) (.c (.int .i64 80))), om 7 6, ga 8 7 false 14 1, gl 9 7 false 8, og 10 7 false (.len false (.t 9)), og 11 7 false (.bin .gtr (.t 10) (.c (.int .i64 80))), pt 12 7 11, om 13 12, ga 14 13 false 15 1, gl 15 13 false 14, og 16 13 false (.len false (.t 15)), og 17 13 false (.bin .gtr (.t 16) (.c (.int .i64 80))), pt 18 13 17, om 19 18, ga 20 19 false 4 1, ga 21 19 false 4 20, gl 22 19 false 21, og 23 19 false (.len false (.t 22)), og 24 19 false (.bin .gtr (.t 23) (.c (.int .i64 100))), pt 25 19 24, om 26 25, ga 27 26 false 4 1, ga 28 26 false 5 27, gl 29 26 false 28, og 30 26 false (.len false (.t 29)), og 31 26 false (.bin .gtr (.t 30) (.c (.int .i64 100))), pt 32 26 31, om 33 32, ga 34 33 false 4 1, ga 35 33 false 6 34, gl 36 33 false 35, og 37 33 false (.len false (.t 36)), og 38 33 false (.bin .gtr (.t 37) (.c (.int .i64 200))), pt 39 33 38, om 40 39, ga 41 40 false 4 1, ga 42 40 false 7 41, gl 43 40 false 42, og 44 40 false (.len false (.t 43)), og 45 40 false (.bin .gtr (.t 44) (.c (.int .i64 500))), pt 46 40 45, om 2 46]
def c19_4 : LC := .seq c19_0 (.seq c19_1 .ret)
def c19 : LF := .mk 47 c19_4 [.tmp 2]
theorem low19 : al Tryz.prog Tryz.f19 = some c19 := by kernel_rfl
def c20_0 : LC := .ops [oo 4 (.box (.t 0)), oo 7 (.box (.t 3)), oo 8 (.alloc [.int .i64 0, .list (some true) true [], .list (some true) true [], .list (some true) true []]), oo 9 (.mov (.c (.int .u64 0))), oo 10 (.mov (.c (.int .i64 0)))]
def c20_1 : LC := .ops [oo 17 (.load (some 4) (.t 4)), om 18 1, kc 19 31 [.t 17, .t 18], om 16 19, oo 20 (.ext 0 (.t 16)), oo 21 (.ext 1 (.t 16)), om 11 20, om 12 21]
def c20_2 : LC := .ops [om 22 12, oo 23 (.un .not (.t 22))]
def c20_3 : LC := .ops [oo 24 (.load (some 4) (.t 4)), .mk none none (.store 4 (.t 8) (.t 24)), oo 9 (.mov (.c (.int .u64 0))), oo 10 (.mov (.c (.int .i64 4)))]
def c20_9 : LC := .ops [oa 25 1 4, ol 26 25, om 27 11, oo 28 (.iaddr 9 (.t 26) (.t 27)), oo 29 (.load (some 9) (.t 28)), oo 13 (.alloc [.int .u32 0, .int .i64 0, .list (some true) true [], .list (some true) true [], .list (some true) true [], .int .i64 0, .int .i64 0, .int .u64 0, .list (some true) true []]), .mk none none (.store 9 (.t 13) (.t 29))]
def c20_10 : LC := .ops [oo 31 (.load (some 9) (.t 13)), om 32 2, kc 33 45 [.t 31, .t 32], om 30 33, oo 34 (.ext 0 (.t 30)), oo 35 (.ext 1 (.t 30)), om 14 34, om 15 35]
def c20_11 : LC := .ops [om 37 2, oo 38 (.bin .eql (.t 37) (.c (.int .u32 0))), om 39 38, og 40 39 false (.load (some 16) (.t 7)), gk 41 39 false 46 [.t 40], og 42 39 false (.un .not (.t 41)), pt 43 39 42, om 36 43]
def c20_12 : LC := .ops [oo 44 (.load (some 4) (.t 4)), .mk none none (.store 4 (.t 8) (.t 44)), oo 9 (.mov (.c (.int .u64 0))), oo 10 (.mov (.c (.int .i64 2)))]
def c20_15 : LC := .ops [om 46 15, oo 47 (.un .not (.t 46)), om 48 47, ga 49 48 true 8 13, gl 50 48 true 49, og 51 48 true (.len false (.t 50)), og 52 48 true (.bin .geq (.t 51) (.c (.int .i64 64))), pf 53 48 52, om 45 53]
def c20_16 : LC := .ops [oo 54 (.load (some 4) (.t 4)), .mk none none (.store 4 (.t 8) (.t 54)), oo 9 (.mov (.c (.int .u64 0))), oo 10 (.mov (.c (.int .i64 6)))]
def c20_25 : LC := .ops [oa 55 8 13, ol 56 55, kc 57 47 [.t 56], oa 58 8 13, .mk none none (.store 1 (.t 58) (.t 57))]
def c20_26 : LC := .ops [om 59 15]
def c20_27 : LC := .ops [oa 60 8 13, ol 61 60, om 62 14, oo 63 (.load (some 16) (.t 7)), oo 64 (.iaddr 17 (.t 61) (.t 62)), oa 65 1 64, .mk none none (.store 16 (.t 65) (.t 63))]
def c20_28 : LC := .ops [oa 66 8 13, ol 67 66, om 68 14, om 69 2, oo 70 (.load (some 16) (.t 7)), oo 71 (.build [.int .u32 0, .int .i64 0, .int .i64 0, .bool false, .bool false, .int .i64 0, .int .i64 0, .int .i64 0, .int .i64 0, .list (some true) true [], .list (some true) true [], .list (some true) true [], .list (some true) true [], .int .i64 0, .list (some true) true [], .list (some true) true [], .list (some true) true []] [(0, 1, .t 69), (1, 16, .t 70)]), oo 72 (.slit 17 [.t 71]), kc 73 48 [.t 67, .t 68, .t 72], oa 74 8 13, .mk none none (.store 1 (.t 74) (.t 73))]
def c20_31 : LC := .ops [oa 75 7 13, ol 76 75, oo 77 (.bin .add (.t 76) (.c (.int .u64 1))), oa 78 7 13, .mk none none (.store 1 (.t 78) (.t 77))]
def c20_32 : LC := .opsX [(oo 79 (.load (some 4) (.t 4)), []), (om 80 11, []), (oo 81 (.load (some 9) (.t 13)), []), (kx 82 32 [.t 79, .t 80, .c (.bool true), .t 81], [83]), (oa 83 7 13, []), (ol 84 83, []), (.mk none none (.store 4 (.t 8) (.t 82)), [83]), (om 9 84, []), (oo 10 (.mov (.c (.int .i64 0))), [])]
def c20_43 : LC := .seq c20_0 (.seq c20_1 (.seq (.seq c20_2 (.cond (.t 23) (.seq c20_3 .ret) .skip)) (.seq c20_9 (.seq c20_10 (.seq (.block 0 (.seq c20_11 (.cond (.t 36) (.seq c20_12 .ret) (.seq c20_15 (.cond (.t 45) (.seq c20_16 .ret) .skip))))) (.seq c20_25 (.seq (.seq c20_26 (.cond (.t 59) c20_27 c20_28)) (.seq c20_31 (.seq c20_32 .ret)))))))))
def c20 : LF := .mk 85 c20_43 [.cell 8 (some 4), .tmp 9, .tmp 10]
theorem low20 : al Tryz.prog Tryz.f20 = some c20 := by kernel_rfl
def c21_0 : LC := .ops [oo 4 (.box (.t 0)), oo 7 (.box (.t 3)), oo 8 (.alloc [.int .i64 0, .list (some true) true [], .list (some true) true [], .list (some true) true [], .int .u64 0, .int .i64 0])]
def c21_1 : LC := .ops [oo 15 (.load (some 4) (.t 4)), om 16 1, kc 17 17 [.t 15, .t 16], om 14 17, oo 18 (.ext 0 (.t 14)), oo 19 (.ext 1 (.t 14)), oo 9 (.alloc [.int .u32 0, .int .i64 0, .list (some true) true [], .list (some true) true [], .list (some true) true [], .int .i64 0, .int .i64 0, .int .u64 0, .list (some true) true []]), .mk none none (.store 9 (.t 9) (.t 18)), om 10 19]
def c21_2 : LC := .ops [om 20 10, oo 21 (.un .not (.t 20))]
def c21_3 : LC := .ops [oo 22 (.load (some 4) (.t 4)), oo 23 (.build [.int .i64 0, .list (some true) true [], .list (some true) true [], .list (some true) true [], .int .u64 0, .int .i64 0] [(0, 4, .t 22), (5, 1, .c (.int .i64 4))]), .mk none none (.store 6 (.t 8) (.t 23))]
def c21_9 : LC := .ops [oo 25 (.load (some 4) (.t 4)), om 26 1, om 27 2, kc 28 25 [.t 25, .t 26, .t 27], om 24 28, oo 29 (.ext 0 (.t 24)), oo 30 (.ext 1 (.t 24)), oo 11 (.alloc [.int .i64 0, .int .i64 0, .bool false, .bool false, .int .i64 0, .int .i64 0, .int .i64 0, .int .i64 0, .list (some true) true [], .list (some true) true [], .list (some true) true [], .list (some true) true [], .int .i64 0, .list (some true) true [], .list (some true) true [], .list (some true) true []]), .mk none none (.store 16 (.t 11) (.t 29)), om 12 30]
def c21_10 : LC := .ops [om 31 2, oo 32 (.bin .eql (.t 31) (.c (.int .u32 0))), om 33 32, og 34 33 false (.load (some 16) (.t 7)), gk 35 33 false 49 [.t 34], og 36 33 false (.un .not (.t 35)), pt 37 33 36]
def c21_11 : LC := .ops [oo 38 (.load (some 4) (.t 4)), oo 39 (.build [.int .i64 0, .list (some true) true [], .list (some true) true [], .list (some true) true [], .int .u64 0, .int .i64 0] [(0, 4, .t 38), (5, 1, .c (.int .i64 2))]), .mk none none (.store 6 (.t 8) (.t 39))]
def c21_17 : LC := .ops [om 40 12, oo 41 (.un .not (.t 40)), om 42 41, ga 43 42 true 8 9, gl 44 42 true 43, og 45 42 true (.len false (.t 44)), og 46 42 true (.bin .geq (.t 45) (.c (.int .i64 64))), pf 47 42 46]
def c21_18 : LC := .ops [oo 48 (.load (some 4) (.t 4)), oo 49 (.build [.int .i64 0, .list (some true) true [], .list (some true) true [], .list (some true) true [], .int .u64 0, .int .i64 0] [(0, 4, .t 48), (5, 1, .c (.int .i64 6))]), .mk none none (.store 6 (.t 8) (.t 49))]
def c21_24 : LC := .opsX [(oa 50 8 9, []), (ol 51 50, []), (om 52 2, []), (kx 53 50 [.t 51, .t 52, .c (.bool false)], [7]), (om 54 2, []), (oo 55 (.load (some 16) (.t 7)), []), (oo 56 (.build [.int .u32 0, .int .i64 0, .int .i64 0, .bool false, .bool false, .int .i64 0, .int .i64 0, .int .i64 0, .int .i64 0, .list (some true) true [], .list (some true) true [], .list (some true) true [], .list (some true) true [], .int .i64 0, .list (some true) true [], .list (some true) true [], .list (some true) true []] [(0, 1, .t 54), (1, 16, .t 55)]), []), (oo 57 (.slit 17 [.t 56]), []), (oo 58 (.app 17 240 (.t 53) (.t 57)), []), (om 13 58, [])]
def c21_25 : LC := .ops [om 59 13, oa 60 8 9, ol 61 60, om 62 2, kc 63 50 [.t 61, .t 62, .c (.bool true)], oo 64 (.app 17 240 (.t 59) (.t 63)), oa 65 8 9, .mk none none (.store 1 (.t 65) (.t 64))]
def c21_26 : LC := .ops [oa 66 7 9, ol 67 66, oo 68 (.bin .add (.t 67) (.c (.int .u64 1))), oa 69 7 9, .mk none none (.store 1 (.t 69) (.t 68))]
def c21_27 : LC := .opsX [(oo 70 (.load (some 4) (.t 4)), []), (oo 71 (.load (some 9) (.t 9)), []), (kx 72 33 [.t 70, .t 71], [73]), (oa 73 7 9, []), (ol 74 73, []), (oo 75 (.build [.int .i64 0, .list (some true) true [], .list (some true) true [], .list (some true) true [], .int .u64 0, .int .i64 0] [(0, 4, .t 72), (4, 1, .t 74)]), []), (.mk none none (.store 6 (.t 8) (.t 75)), [])]
def c21_38 : LC := .seq c21_0 (.seq c21_1 (.seq (.seq c21_2 (.cond (.t 21) (.seq c21_3 .ret) .skip)) (.seq c21_9 (.seq (.seq c21_10 (.cond (.t 37) (.seq c21_11 .ret) .skip)) (.seq (.seq c21_17 (.cond (.t 47) (.seq c21_18 .ret) .skip)) (.seq c21_24 (.seq c21_25 (.seq c21_26 (.seq c21_27 .ret)))))))))
def c21 : LF := .mk 76 c21_38 [.cell 8 (some 6)]
theorem low21 : al Tryz.prog Tryz.f21 = some c21 := by kernel_rfl
def c22_0 : LC := .ops [oo 3 (.box (.t 0)), oo 6 (.alloc [.int .i64 0, .list (some true) true [], .list (some true) true [], .list (some true) true []]), oo 7 (.mov (.c (.int .u64 0))), oo 8 (.mov (.c (.int .i64 0)))]
def c22_1 : LC := .ops [oo 15 (.load (some 4) (.t 3)), om 16 1, kc 17 31 [.t 15, .t 16], om 14 17, oo 18 (.ext 0 (.t 14)), oo 19 (.ext 1 (.t 14)), om 9 18, om 10 19]
def c22_2 : LC := .ops [om 20 10, oo 21 (.un .not (.t 20))]
def c22_3 : LC := .ops [oo 22 (.load (some 4) (.t 3)), .mk none none (.store 4 (.t 6) (.t 22)), oo 7 (.mov (.c (.int .u64 0))), oo 8 (.mov (.c (.int .i64 4)))]
def c22_9 : LC := .ops [oa 23 1 3, ol 24 23, om 25 9, oo 26 (.iaddr 9 (.t 24) (.t 25)), oo 27 (.load (some 9) (.t 26)), oo 11 (.alloc [.int .u32 0, .int .i64 0, .list (some true) true [], .list (some true) true [], .list (some true) true [], .int .i64 0, .int .i64 0, .int .u64 0, .list (some true) true []]), .mk none none (.store 9 (.t 11) (.t 27))]
def c22_10 : LC := .ops [oo 29 (.load (some 9) (.t 11)), om 30 2, kc 31 45 [.t 29, .t 30], om 28 31, oo 32 (.ext 0 (.t 28)), oo 33 (.ext 1 (.t 28)), om 12 32, om 13 33]
def c22_11 : LC := .ops [om 34 13, oo 35 (.un .not (.t 34))]
def c22_12 : LC := .ops [oo 36 (.load (some 4) (.t 3)), .mk none none (.store 4 (.t 6) (.t 36)), oo 7 (.mov (.c (.int .u64 0))), oo 8 (.mov (.c (.int .i64 4)))]
def c22_18 : LC := .ops [oa 37 8 11, ol 38 37, kc 39 47 [.t 38], om 40 12, om 41 12, oo 42 (.bin .add (.t 41) (.c (.int .i64 1))), kc 43 51 [.t 39, .t 40, .t 42], oa 44 8 11, .mk none none (.store 1 (.t 44) (.t 43))]
def c22_19 : LC := .ops [oa 45 7 11, ol 46 45, oo 47 (.bin .add (.t 46) (.c (.int .u64 1))), oa 48 7 11, .mk none none (.store 1 (.t 48) (.t 47))]
def c22_20 : LC := .opsX [(oo 49 (.load (some 4) (.t 3)), []), (om 50 9, []), (oo 51 (.load (some 9) (.t 11)), []), (kx 52 32 [.t 49, .t 50, .c (.bool true), .t 51], [53]), (oa 53 7 11, []), (ol 54 53, []), (.mk none none (.store 4 (.t 6) (.t 52)), [53]), (om 7 54, []), (oo 8 (.mov (.c (.int .i64 0))), [])]
def c22_30 : LC := .seq c22_0 (.seq c22_1 (.seq (.seq c22_2 (.cond (.t 21) (.seq c22_3 .ret) .skip)) (.seq c22_9 (.seq c22_10 (.seq (.seq c22_11 (.cond (.t 35) (.seq c22_12 .ret) .skip)) (.seq c22_18 (.seq c22_19 (.seq c22_20 .ret))))))))
def c22 : LF := .mk 55 c22_30 [.cell 6 (some 4), .tmp 7, .tmp 8]
theorem low22 : al Tryz.prog Tryz.f22 = some c22 := by kernel_rfl
def c23_0 : LC := .ops [oo 3 (.box (.t 0)), oo 6 (.alloc [.int .i64 0, .list (some true) true [], .list (some true) true [], .list (some true) true [], .int .u64 0, .int .i64 0])]
def c23_1 : LC := .ops [oo 13 (.load (some 4) (.t 3)), om 14 1, kc 15 17 [.t 13, .t 14], om 12 15, oo 16 (.ext 0 (.t 12)), oo 17 (.ext 1 (.t 12)), oo 7 (.alloc [.int .u32 0, .int .i64 0, .list (some true) true [], .list (some true) true [], .list (some true) true [], .int .i64 0, .int .i64 0, .int .u64 0, .list (some true) true []]), .mk none none (.store 9 (.t 7) (.t 16)), om 8 17]
def c23_2 : LC := .ops [oo 19 (.load (some 4) (.t 3)), om 20 1, om 21 2, kc 22 25 [.t 19, .t 20, .t 21], om 18 22, oo 23 (.ext 0 (.t 18)), oo 24 (.ext 1 (.t 18)), oo 9 (.alloc [.int .i64 0, .int .i64 0, .bool false, .bool false, .int .i64 0, .int .i64 0, .int .i64 0, .int .i64 0, .list (some true) true [], .list (some true) true [], .list (some true) true [], .list (some true) true [], .int .i64 0, .list (some true) true [], .list (some true) true [], .list (some true) true []]), .mk none none (.store 16 (.t 9) (.t 23)), om 10 24]
def c23_3 : LC := .ops [om 25 10, oo 26 (.un .not (.t 25))]
def c23_4 : LC := .ops [oo 27 (.load (some 4) (.t 3)), oo 28 (.build [.int .i64 0, .list (some true) true [], .list (some true) true [], .list (some true) true [], .int .u64 0, .int .i64 0] [(0, 4, .t 27), (5, 1, .c (.int .i64 4))]), .mk none none (.store 6 (.t 6) (.t 28))]
def c23_10 : LC := .ops [oa 29 8 7, ol 30 29, om 31 2, kc 32 50 [.t 30, .t 31, .c (.bool false)], om 11 32]
def c23_11 : LC := .ops [om 33 11, oa 34 8 7, ol 35 34, om 36 2, kc 37 50 [.t 35, .t 36, .c (.bool true)], oo 38 (.app 17 240 (.t 33) (.t 37)), oa 39 8 7, .mk none none (.store 1 (.t 39) (.t 38))]
def c23_12 : LC := .ops [oa 40 7 7, ol 41 40, oo 42 (.bin .add (.t 41) (.c (.int .u64 1))), oa 43 7 7, .mk none none (.store 1 (.t 43) (.t 42))]
def c23_13 : LC := .opsX [(oo 44 (.load (some 4) (.t 3)), []), (oo 45 (.load (some 9) (.t 7)), []), (kx 46 33 [.t 44, .t 45], [47]), (oa 47 7 7, []), (ol 48 47, []), (oo 49 (.build [.int .i64 0, .list (some true) true [], .list (some true) true [], .list (some true) true [], .int .u64 0, .int .i64 0] [(0, 4, .t 46), (4, 1, .t 48)]), []), (.mk none none (.store 6 (.t 6) (.t 49)), [])]
def c23_22 : LC := .seq c23_0 (.seq c23_1 (.seq c23_2 (.seq (.seq c23_3 (.cond (.t 26) (.seq c23_4 .ret) .skip)) (.seq c23_10 (.seq c23_11 (.seq c23_12 (.seq c23_13 .ret)))))))
def c23 : LF := .mk 50 c23_22 [.cell 6 (some 6)]
theorem low23 : al Tryz.prog Tryz.f23 = some c23 := by kernel_rfl
def c24_0 : LC := .ops [oo 3 (.box (.t 0)), oo 6 (.alloc [.int .i64 0, .int .i64 0, .bool false, .bool false, .int .i64 0, .int .i64 0, .int .i64 0, .int .i64 0, .list (some true) true [], .list (some true) true [], .list (some true) true [], .list (some true) true [], .int .i64 0, .list (some true) true [], .list (some true) true [], .list (some true) true []]), oo 7 (.mov (.c (.bool false)))]
def c24_1 : LC := .ops [oo 13 (.load (some 4) (.t 3)), om 14 1, kc 15 16 [.t 13, .t 14], om 12 15, oo 16 (.ext 0 (.t 12)), oo 17 (.ext 1 (.t 12)), oo 8 (.alloc [.int .u32 0, .int .i64 0, .list (some true) true [], .list (some true) true [], .list (some true) true [], .int .i64 0, .int .i64 0, .int .u64 0, .list (some true) true []]), .mk none none (.store 9 (.t 8) (.t 16)), om 9 17]
def c24_2 : LC := .ops [oo 19 (.load (some 9) (.t 8)), om 20 2, kc 21 45 [.t 19, .t 20], om 18 21, oo 22 (.ext 0 (.t 18)), oo 23 (.ext 1 (.t 18)), om 10 22, om 11 23]
def c24_3 : LC := .ops [om 24 11, oo 25 (.un .not (.t 24))]
def c24_4 : LC := .ops [oo 26 (.build [.int .i64 0, .int .i64 0, .bool false, .bool false, .int .i64 0, .int .i64 0, .int .i64 0, .int .i64 0, .list (some true) true [], .list (some true) true [], .list (some true) true [], .list (some true) true [], .int .i64 0, .list (some true) true [], .list (some true) true [], .list (some true) true []] []), .mk none none (.store 16 (.t 6) (.t 26)), oo 7 (.mov (.c (.bool false)))]
def c24_10 : LC := .ops [oa 27 8 8, ol 28 27, om 29 10, oo 30 (.iaddr 17 (.t 28) (.t 29)), oa 31 1 30, oo 32 (.load (some 16) (.t 31)), .mk none none (.store 16 (.t 6) (.t 32)), oo 7 (.mov (.c (.bool true)))]
def c24_16 : LC := .seq c24_0 (.seq c24_1 (.seq c24_2 (.seq (.seq c24_3 (.cond (.t 25) (.seq c24_4 .ret) .skip)) (.seq c24_10 .ret))))
def c24 : LF := .mk 33 c24_16 [.cell 6 (some 16), .tmp 7]
theorem low24 : al Tryz.prog Tryz.f24 = some c24 := by kernel_rfl
def c25_0 : LC := .ops [oo 3 (.box (.t 0)), oo 6 (.alloc [.int .i64 0, .int .i64 0, .bool false, .bool false, .int .i64 0, .int .i64 0, .int .i64 0, .int .i64 0, .list (some true) true [], .list (some true) true [], .list (some true) true [], .list (some true) true [], .int .i64 0, .list (some true) true [], .list (some true) true [], .list (some true) true []]), oo 7 (.mov (.c (.bool false)))]
def c25_1 : LC := .ops [oo 12 (.load (some 4) (.t 3)), om 13 1, kc 14 17 [.t 12, .t 13], om 11 14, oo 15 (.ext 0 (.t 11)), oo 16 (.ext 1 (.t 11)), oo 8 (.alloc [.int .u32 0, .int .i64 0, .list (some true) true [], .list (some true) true [], .list (some true) true [], .int .i64 0, .int .i64 0, .int .u64 0, .list (some true) true []]), .mk none none (.store 9 (.t 8) (.t 15)), om 9 16]
def c25_2 : LC := .ops [oa 17 8 8, ol 18 17, on 19 18, oo 20 (.mov (.c (.int .i64 0)))]
def c25_3 : LC := .ops [kb 21 .lss 20 19]
def c25_6 : LC := .ops [om 22 20, om 10 22]
def c25_7 : LC := .ops [oa 23 8 8, ol 24 23, om 25 10, oo 26 (.iaddr 17 (.t 24) (.t 25)), oa 27 0 26, ol 28 27, om 29 2, kb 30 .eql 28 29]
def c25_8 : LC := .ops [oa 31 8 8, ol 32 31, om 33 10, oo 34 (.iaddr 17 (.t 32) (.t 33)), oa 35 1 34, oo 36 (.load (some 16) (.t 35)), .mk none none (.store 16 (.t 6) (.t 36)), oo 7 (.mov (.c (.bool true)))]
def c25_16 : LC := .ops [oo 37 (.bin .add (.t 20) (.c (.int .i64 1))), om 20 37]
def c25_23 : LC := .ops [oo 38 (.build [.int .i64 0, .int .i64 0, .bool false, .bool false, .int .i64 0, .int .i64 0, .int .i64 0, .int .i64 0, .list (some true) true [], .list (some true) true [], .list (some true) true [], .list (some true) true [], .int .i64 0, .list (some true) true [], .list (some true) true [], .list (some true) true []] []), .mk none none (.store 16 (.t 6) (.t 38)), oo 7 (.mov (.c (.bool false)))]
def c25_28 : LC := .seq c25_0 (.seq c25_1 (.seq (.seq c25_2 (.block 0 (.loop (.seq c25_3 (.seq (.cond (.t 21) .skip (.exit 0)) (.seq (.block 1 (.seq c25_6 (.seq c25_7 (.cond (.t 30) (.seq c25_8 .ret) .skip)))) c25_16)))))) (.seq c25_23 .ret)))
def c25 : LF := .mk 39 c25_28 [.cell 6 (some 16), .tmp 7]
theorem low25 : al Tryz.prog Tryz.f25 = some c25 := by kernel_rfl
def c26_0 : LC := .ops [oo 2 (.box (.t 0)), oo 3 (.box (.t 1)), oo 4 (.mov (.c (.bool false)))]
def c26_1 : LC := .ops [oa 6 0 2, ol 7 6, oa 8 0 3, ol 9 8, kb 10 .neq 7 9, om 11 10, ga 12 11 false 1 2, gl 13 11 false 12, ga 14 11 false 1 3, gl 15 11 false 14, og 16 11 false (.bin .neq (.t 13) (.t 15)), pt 17 11 16, om 18 17, ga 19 18 false 3 2, gl 20 18 false 19, ga 21 18 false 3 3, gl 22 18 false 21, og 23 18 false (.eq .bool true (.t 20) (.t 22)), pt 24 18 23, om 25 24, ga 26 25 false 2 2, gl 27 25 false 26, ga 28 25 false 2 3, gl 29 25 false 28, og 30 25 false (.eq .bool true (.t 27) (.t 29)), pt 31 25 30, om 32 31, ga 33 32 false 15 2, gl 34 32 false 33, og 35 32 false (.len false (.t 34)), ga 36 32 false 15 3, gl 37 32 false 36, og 38 32 false (.len false (.t 37)), og 39 32 false (.bin .neq (.t 35) (.t 38)), pt 40 32 39]
def c26_2 : LC := .ops [oo 4 (.mov (.c (.bool false)))]
def c26_8 : LC := .ops [oa 41 15 2, ol 42 41, on 43 42, oo 44 (.mov (.c (.int .i64 0)))]
def c26_9 : LC := .ops [kb 45 .lss 44 43]
def c26_12 : LC := .ops [om 46 44, om 5 46]
def c26_13 : LC := .opsX [(oa 47 15 2, []), (ol 48 47, []), (om 49 5, []), (oo 50 (.iaddr 3 (.t 48) (.t 49)), []), (oo 51 (.load (some 3) (.t 50)), []), (oa 52 15 3, []), (ol 53 52, []), (om 54 5, []), (oo 55 (.iaddr 3 (.t 53) (.t 54)), []), (oo 56 (.load (some 3) (.t 55)), []), (oo 57 (.eq (.row [.int, .int, .int]) true (.t 51) (.t 56)), [])]
def c26_14 : LC := .ops [oo 4 (.mov (.c (.bool false)))]
def c26_22 : LC := .ops [oo 58 (.bin .add (.t 44) (.c (.int .i64 1))), om 44 58]
def c26_29 : LC := .ops [oa 59 4 2, oo 60 (.load (some 9) (.t 59)), oa 61 4 3, oo 62 (.load (some 9) (.t 61)), kc 63 52 [.t 60, .t 62], om 64 63, ga 65 64 true 13 2, gl 66 64 true 65, ga 67 64 true 13 3, gl 68 64 true 67, gk 69 64 true 53 [.t 66, .t 68], pf 70 64 69, om 71 70, ga 72 71 true 14 2, gl 73 71 true 72, ga 74 71 true 14 3, gl 75 71 true 74, gk 76 71 true 53 [.t 73, .t 75], pf 77 71 76, om 4 77]
def c26_34 : LC := .seq c26_0 (.seq (.seq c26_1 (.cond (.t 40) (.seq c26_2 .ret) .skip)) (.seq (.seq c26_8 (.block 0 (.loop (.seq c26_9 (.seq (.cond (.t 45) .skip (.exit 0)) (.seq (.block 1 (.seq c26_12 (.seq c26_13 (.cond (.t 57) (.seq c26_14 .ret) .skip)))) c26_22)))))) (.seq c26_29 .ret)))
def c26 : LF := .mk 78 c26_34 [.tmp 4]
theorem low26 : al Tryz.prog Tryz.f26 = some c26 := by kernel_rfl
def c27_0 : LC := .ops [oo 1 (.box (.t 0)), oo 2 (.mov (.c (.bool false)))]
def c27_1 : LC := .ops [oa 7 1 1, ol 8 7, on 9 8, oo 10 (.bin .gtr (.t 9) (.c (.int .i64 12))), om 11 10, ga 12 11 false 2 1, gl 13 11 false 12, og 14 11 false (.len false (.t 13)), og 15 11 false (.bin .gtr (.t 14) (.c (.int .i64 8))), pt 16 11 15, om 17 16, ga 18 17 false 3 1, gl 19 17 false 18, og 20 17 false (.len false (.t 19)), og 21 17 false (.bin .gtr (.t 20) (.c (.int .i64 100))), pt 22 17 21]
def c27_2 : LC := .ops [oo 2 (.mov (.c (.bool true)))]
def c27_8 : LC := .ops [oa 23 1 1, ol 24 23, on 25 24, oo 26 (.mov (.c (.int .i64 0)))]
def c27_9 : LC := .ops [kb 27 .lss 26 25]
def c27_12 : LC := .ops [om 28 26, om 3 28]
def c27_13 : LC := .ops [oa 29 1 1, ol 30 29, om 31 3, oo 32 (.iaddr 9 (.t 30) (.t 31)), oo 33 (.load (some 9) (.t 32)), oo 4 (.alloc [.int .u32 0, .int .i64 0, .list (some true) true [], .list (some true) true [], .list (some true) true [], .int .i64 0, .int .i64 0, .int .u64 0, .list (some true) true []]), .mk none none (.store 9 (.t 4) (.t 33))]
def c27_14 : LC := .ops [oa 34 1 4, oo 35 (.load (some 6) (.t 34)), kc 36 6 [.t 35], om 37 36, ga 38 37 false 8 4, gl 39 37 false 38, og 40 37 false (.len false (.t 39)), og 41 37 false (.bin .gtr (.t 40) (.c (.int .i64 10))), pt 42 37 41]
def c27_15 : LC := .ops [oo 2 (.mov (.c (.bool true)))]
def c27_21 : LC := .ops [oa 43 8 4, ol 44 43, on 45 44, oo 46 (.mov (.c (.int .i64 0)))]
def c27_22 : LC := .ops [kb 47 .lss 46 45]
def c27_25 : LC := .ops [om 48 46, om 5 48]
def c27_26 : LC := .ops [oa 49 8 4, ol 50 49, om 51 5, oo 52 (.iaddr 17 (.t 50) (.t 51)), oa 53 1 52, oo 54 (.load (some 16) (.t 53)), kc 55 19 [.t 54]]
def c27_27 : LC := .ops [oo 2 (.mov (.c (.bool true)))]
def c27_35 : LC := .ops [oo 56 (.bin .add (.t 46) (.c (.int .i64 1))), om 46 56]
def c27_46 : LC := .ops [oo 57 (.bin .add (.t 26) (.c (.int .i64 1))), om 26 57]
def c27_53 : LC := .ops [oa 58 2 1, ol 59 58, on 60 59, oo 61 (.mov (.c (.int .i64 0)))]
def c27_54 : LC := .ops [kb 62 .lss 61 60]
def c27_57 : LC := .ops [om 63 61, om 6 63]
def c27_58 : LC := .ops [oa 64 2 1, ol 65 64, om 66 6, oo 67 (.iaddr 16 (.t 65) (.t 66)), oo 68 (.load (some 16) (.t 67)), kc 69 54 [.t 68]]
def c27_59 : LC := .ops [oo 2 (.mov (.c (.bool true)))]
def c27_67 : LC := .ops [oo 70 (.bin .add (.t 61) (.c (.int .i64 1))), om 61 70]
def c27_74 : LC := .ops [oo 2 (.mov (.c (.bool false)))]
def c27_80 : LC := .seq c27_0 (.seq (.seq c27_1 (.cond (.t 22) (.seq c27_2 .ret) .skip)) (.seq (.seq c27_8 (.block 0 (.loop (.seq c27_9 (.seq (.cond (.t 27) .skip (.exit 0)) (.seq (.block 1 (.seq c27_12 (.seq c27_13 (.seq (.seq c27_14 (.cond (.t 42) (.seq c27_15 .ret) .skip)) (.seq c27_21 (.block 2 (.loop (.seq c27_22 (.seq (.cond (.t 47) .skip (.exit 2)) (.seq (.block 3 (.seq c27_25 (.seq c27_26 (.cond (.t 55) (.seq c27_27 .ret) .skip)))) c27_35)))))))))) c27_46)))))) (.seq (.seq c27_53 (.block 4 (.loop (.seq c27_54 (.seq (.cond (.t 62) .skip (.exit 4)) (.seq (.block 5 (.seq c27_57 (.seq c27_58 (.cond (.t 69) (.seq c27_59 .ret) .skip)))) c27_67)))))) (.seq c27_74 .ret))))
def c27 : LF := .mk 71 c27_80 [.tmp 2]
theorem low27 : al Tryz.prog Tryz.f27 = some c27 := by kernel_rfl
def c28_0 : LC := .ops [oo 1 (.box (.t 0)), oo 2 (.mov (.c (.bool false)))]
def c28_1 : LC := .ops [oa 6 1 1, ol 7 6, on 8 7, oo 9 (.mov (.c (.int .i64 0)))]
def c28_2 : LC := .ops [kb 10 .lss 9 8]
def c28_5 : LC := .ops [om 11 9, om 3 11]
def c28_6 : LC := .opsX [(om 12 3, []), (oo 13 (.bin .gtr (.t 12) (.c (.int .i64 0))), []), (om 14 13, []), (ga 15 14 true 1 1, []), (gl 16 14 true 15, []), (gm 17 14 true 3, []), (og 18 14 true (.bin .sub (.t 17) (.c (.int .i64 1))), []), (og 19 14 true (.iaddr 9 (.t 16) (.t 18)), []), (ga 20 14 true 0 19, []), (gl 21 14 true 20, []), (ga 22 14 true 1 1, []), (gl 23 14 true 22, []), (gm 24 14 true 3, []), (og 25 14 true (.iaddr 9 (.t 23) (.t 24)), []), (ga 26 14 true 0 25, []), (gl 27 14 true 26, []), (og 28 14 true (.bin .geq (.t 21) (.t 27)), []), (pf 29 14 28, [])]
def c28_7 : LC := .ops [oo 2 (.mov (.c (.bool false)))]
def c28_13 : LC := .ops [oa 30 1 1, ol 31 30, om 32 3, oo 33 (.iaddr 9 (.t 31) (.t 32)), oa 34 8 33, ol 35 34, om 4 35]
def c28_14 : LC := .ops [om 36 4, on 37 36, oo 38 (.mov (.c (.int .i64 0)))]
def c28_15 : LC := .ops [kb 39 .lss 38 37]
def c28_18 : LC := .ops [om 40 38, om 5 40]
def c28_19 : LC := .opsX [(om 41 5, []), (oo 42 (.bin .gtr (.t 41) (.c (.int .i64 0))), []), (om 43 42, []), (gm 44 43 true 4, []), (gm 45 43 true 5, []), (og 46 43 true (.bin .sub (.t 45) (.c (.int .i64 1))), []), (og 47 43 true (.iaddr 17 (.t 44) (.t 46)), []), (ga 48 43 true 0 47, []), (gl 49 43 true 48, []), (gm 50 43 true 4, []), (gm 51 43 true 5, []), (og 52 43 true (.iaddr 17 (.t 50) (.t 51)), []), (ga 53 43 true 0 52, []), (gl 54 43 true 53, []), (og 55 43 true (.bin .geq (.t 49) (.t 54)), []), (pf 56 43 55, [])]
def c28_20 : LC := .ops [oo 2 (.mov (.c (.bool false)))]
def c28_28 : LC := .ops [oo 57 (.bin .add (.t 38) (.c (.int .i64 1))), om 38 57]
def c28_39 : LC := .ops [oo 58 (.bin .add (.t 9) (.c (.int .i64 1))), om 9 58]
def c28_46 : LC := .ops [oo 2 (.mov (.c (.bool true)))]
def c28_50 : LC := .seq c28_0 (.seq (.seq c28_1 (.block 0 (.loop (.seq c28_2 (.seq (.cond (.t 10) .skip (.exit 0)) (.seq (.block 1 (.seq c28_5 (.seq (.seq c28_6 (.cond (.t 29) (.seq c28_7 .ret) .skip)) (.seq c28_13 (.seq c28_14 (.block 2 (.loop (.seq c28_15 (.seq (.cond (.t 39) .skip (.exit 2)) (.seq (.block 3 (.seq c28_18 (.seq c28_19 (.cond (.t 56) (.seq c28_20 .ret) .skip)))) c28_28)))))))))) c28_39)))))) (.seq c28_46 .ret))
def c28 : LF := .mk 59 c28_50 [.tmp 2]
theorem low28 : al Tryz.prog Tryz.f28 = some c28 := by kernel_rfl
def c29_0 : LC := .ops [oo 1 (.box (.t 0)), oo 2 (.mov (.c (.list (some true) true []))), oo 3 (.mov (.c (.bool false)))]
def c29_1 : LC := .ops [kc 9 55 [], oo 10 (.build [.nilp, .nilp, .bool false] [(0, 1, .t 9)]), oo 11 (.box (.t 10)), om 4 11]
def c29_2 : LC := .ops [om 12 4, kc 13 56 [.t 12, .t 1]]
def c29_3 : LC := .ops [om 15 4, kc 16 57 [.t 15, .c (.int .i64 1048576)], om 14 16, oo 17 (.ext 0 (.t 14)), oo 18 (.ext 1 (.t 14)), om 5 17, om 6 18]
def c29_4 : LC := .ops [om 19 6, oo 20 (.un .not (.t 19))]
def c29_5 : LC := .ops [oo 2 (.mov (.c (.list (some true) true []))), oo 3 (.mov (.c (.bool false)))]
def c29_11 : LC := .ops [om 22 5, kc 23 30 [.t 22], om 21 23, oo 24 (.ext 0 (.t 21)), oo 25 (.ext 1 (.t 21)), oo 7 (.alloc [.int .i64 0, .list (some true) true [], .list (some true) true [], .list (some true) true []]), .mk none none (.store 4 (.t 7) (.t 24)), om 8 25]
def c29_12 : LC := .ops [om 26 8, oo 27 (.un .not (.t 26)), om 28 27, og 29 28 false (.load (some 4) (.t 7)), og 30 28 false (.load (some 4) (.t 1)), gk 31 28 false 58 [.t 29, .t 30], og 32 28 false (.un .not (.t 31)), pt 33 28 32]
def c29_13 : LC := .ops [oo 2 (.mov (.c (.list (some true) true []))), oo 3 (.mov (.c (.bool false)))]
def c29_20 : LC := .ops [om 34 5, om 2 34, oo 3 (.mov (.c (.bool true)))]
def c29_28 : LC := .seq c29_0 (.seq c29_1 (.seq c29_2 (.seq c29_3 (.seq (.seq c29_4 (.cond (.t 20) (.seq c29_5 .ret) .skip)) (.seq (.seq c29_11 (.seq c29_12 (.cond (.t 33) (.seq c29_13 .ret) .skip))) (.seq c29_20 .ret))))))
def c29 : LF := .mk 35 c29_28 [.tmp 2, .tmp 3]
theorem low29 : al Tryz.prog Tryz.f29 = some c29 := by kernel_rfl
def c30_0 : LC := .ops [oo 2 (.alloc [.int .i64 0, .list (some true) true [], .list (some true) true [], .list (some true) true []]), oo 3 (.mov (.c (.bool false)))]
def c30_1 : LC := .ops [om 6 0, kc 7 59 [.t 6], oo 8 (.build [.nilp, .nilp, .bool false] [(1, 1, .t 7)]), oo 9 (.box (.t 8)), om 4 9]
def c30_2 : LC := .ops [oo 5 (.alloc [.int .i64 0, .list (some true) true [], .list (some true) true [], .list (some true) true []])]
def c30_3 : LC := .ops [om 10 4, kc 11 56 [.t 10, .t 5]]
def c30_4 : LC := .ops [om 12 4, om 13 0, kc 14 60 [.t 12, .t 13, .c (.int .i64 1048576)], oo 15 (.un .not (.t 14))]
def c30_5 : LC := .ops [oo 16 (.build [.int .i64 0, .list (some true) true [], .list (some true) true [], .list (some true) true []] []), .mk none none (.store 4 (.t 2) (.t 16)), oo 3 (.mov (.c (.bool false)))]
def c30_11 : LC := .ops [oo 17 (.load (some 4) (.t 5)), .mk none none (.store 4 (.t 2) (.t 17)), oo 3 (.mov (.c (.bool true)))]
def c30_18 : LC := .seq c30_0 (.seq c30_1 (.seq c30_2 (.seq c30_3 (.seq (.seq c30_4 (.cond (.t 15) (.seq c30_5 .ret) .skip)) (.seq c30_11 .ret)))))
def c30 : LF := .mk 18 c30_18 [.cell 2 (some 4), .tmp 3]
theorem low30 : al Tryz.prog Tryz.f30 = some c30 := by kernel_rfl
def c31_0 : LC := .ops [oo 2 (.box (.t 0)), oo 4 (.mov (.c (.int .i64 0))), oo 5 (.mov (.c (.bool false)))]
def c31_1 : LC := .ops [oa 6 1 2, ol 7 6, om 8 1, oo 9 (.call (.c (.fn 61 [])) [.t 7, .t 8, .c (.fn 62 [])]), oo 10 (.ext 0 (.t 9)), oo 11 (.ext 1 (.t 9)), om 4 10, om 5 11]
def c31_4 : LC := .seq c31_0 (.seq c31_1 .ret)
def c31 : LF := .mk 12 c31_4 [.tmp 4, .tmp 5]
theorem low31 : al Tryz.prog Tryz.f31 = some c31 := by kernel_rfl
def c32_0 : LC := .ops [oo 4 (.box (.t 0)), oo 7 (.box (.t 3)), oo 8 (.alloc [.int .i64 0, .list (some true) true [], .list (some true) true [], .list (some true) true []])]
def c32_1 : LC := .ops [oa 9 1 4, ol 10 9, kc 11 40 [.t 10], oa 12 1 4, .mk none none (.store 1 (.t 12) (.t 11))]
def c32_2 : LC := .ops [om 13 2]
def c32_3 : LC := .ops [oa 14 1 4, ol 15 14, om 16 1, oo 17 (.load (some 9) (.t 7)), oo 18 (.iaddr 9 (.t 15) (.t 16)), .mk none none (.store 9 (.t 18) (.t 17))]
def c32_4 : LC := .ops [oa 19 1 4, ol 20 19, om 21 1, oo 22 (.load (some 9) (.t 7)), oo 23 (.slit 9 [.t 22]), kc 24 64 [.t 20, .t 21, .t 23], oa 25 1 4, .mk none none (.store 1 (.t 25) (.t 24))]
def c32_7 : LC := .ops [oo 26 (.load (some 4) (.t 4)), .mk none none (.store 4 (.t 8) (.t 26))]
def c32_12 : LC := .seq c32_0 (.seq c32_1 (.seq (.seq c32_2 (.cond (.t 13) c32_3 c32_4)) (.seq c32_7 .ret)))
def c32 : LF := .mk 27 c32_12 [.cell 8 (some 4)]
theorem low32 : al Tryz.prog Tryz.f32 = some c32 := by kernel_rfl
def c33_0 : LC := .ops [oo 2 (.box (.t 0)), oo 3 (.box (.t 1)), oo 4 (.alloc [.int .i64 0, .list (some true) true [], .list (some true) true [], .list (some true) true []])]
def c33_1 : LC := .ops [oo 8 (.slit 9 []), om 5 8]
def c33_2 : LC := .ops [oo 6 (.mov (.c (.bool false)))]
def c33_3 : LC := .ops [oa 9 1 2, ol 10 9, on 11 10, oo 12 (.mov (.c (.int .i64 0)))]
def c33_4 : LC := .ops [kb 13 .lss 12 11]
def c33_7 : LC := .ops [om 14 12, om 7 14]
def c33_8 : LC := .opsX [(om 15 6, []), (oo 16 (.un .not (.t 15)), []), (om 17 16, []), (ga 18 17 true 1 2, []), (gl 19 17 true 18, []), (gm 20 17 true 7, []), (og 21 17 true (.iaddr 9 (.t 19) (.t 20)), []), (ga 22 17 true 0 21, []), (gl 23 17 true 22, []), (ga 24 17 true 0 3, []), (gl 25 17 true 24, []), (og 26 17 true (.bin .geq (.t 23) (.t 25)), []), (pf 27 17 26, [])]
def c33_9 : LC := .ops [om 28 5, oo 29 (.load (some 9) (.t 3)), oo 30 (.slit 9 [.t 29]), oo 31 (.app 9 136 (.t 28) (.t 30)), om 5 31]
def c33_10 : LC := .ops [oo 6 (.mov (.c (.bool true)))]
def c33_15 : LC := .opsX [(oa 32 1 2, []), (ol 33 32, []), (om 34 7, []), (oo 35 (.iaddr 9 (.t 33) (.t 34)), []), (oa 36 0 35, []), (ol 37 36, []), (oa 38 0 3, []), (ol 39 38, []), (kb 40 .neq 37 39, [])]
def c33_16 : LC := .ops [om 41 5, oa 42 1 2, ol 43 42, om 44 7, oo 45 (.iaddr 9 (.t 43) (.t 44)), oo 46 (.load (some 9) (.t 45)), oo 47 (.slit 9 [.t 46]), oo 48 (.app 9 136 (.t 41) (.t 47)), om 5 48]
def c33_23 : LC := .ops [oo 49 (.bin .add (.t 12) (.c (.int .i64 1))), om 12 49]
def c33_30 : LC := .ops [om 50 6, oo 51 (.un .not (.t 50))]
def c33_31 : LC := .ops [om 52 5, oo 53 (.load (some 9) (.t 3)), oo 54 (.slit 9 [.t 53]), oo 55 (.app 9 136 (.t 52) (.t 54)), om 5 55]
def c33_35 : LC := .ops [om 56 5, oa 57 1 2, .mk none none (.store 1 (.t 57) (.t 56))]
def c33_36 : LC := .ops [oo 58 (.load (some 4) (.t 2)), .mk none none (.store 4 (.t 4) (.t 58))]
def c33_44 : LC := .seq c33_0 (.seq c33_1 (.seq c33_2 (.seq (.seq c33_3 (.block 0 (.loop (.seq c33_4 (.seq (.cond (.t 13) .skip (.exit 0)) (.seq (.block 1 (.seq c33_7 (.seq (.seq c33_8 (.cond (.t 27) (.seq c33_9 c33_10) .skip)) (.seq c33_15 (.cond (.t 40) c33_16 .skip))))) c33_23)))))) (.seq (.seq c33_30 (.cond (.t 51) c33_31 .skip)) (.seq c33_35 (.seq c33_36 .ret))))))
def c33 : LF := .mk 59 c33_44 [.cell 4 (some 4)]
theorem low33 : al Tryz.prog Tryz.f33 = some c33 := by kernel_rfl
def c34_0 : LC := .ops [oo 2 (.box (.t 0)), oo 3 (.box (.t 1)), oo 4 (.mov (.c (.bool false)))]
def c34_1 : LC := .ops [oa 6 0 2, ol 7 6, oa 8 0 3, ol 9 8, kb 10 .neq 7 9, om 11 10, ga 12 11 false 1 2, gl 13 11 false 12, ga 14 11 false 1 3, gl 15 11 false 14, og 16 11 false (.bin .neq (.t 13) (.t 15)), pt 17 11 16, om 18 17, ga 19 18 false 2 2, og 20 18 false (.load (some 9) (.t 19)), ga 21 18 false 2 3, og 22 18 false (.load (some 9) (.t 21)), gk 23 18 false 65 [.t 20, .t 22], og 24 18 false (.un .not (.t 23)), pt 25 18 24, om 26 25, ga 27 26 false 11 2, gl 28 26 false 27, ga 29 26 false 11 3, gl 30 26 false 29, gk 31 26 false 53 [.t 28, .t 30], og 32 26 false (.un .not (.t 31)), pt 33 26 32, om 34 33, ga 35 34 false 12 2, gl 36 34 false 35, og 37 34 false (.len false (.t 36)), ga 38 34 false 12 3, gl 39 34 false 38, og 40 34 false (.len false (.t 39)), og 41 34 false (.bin .neq (.t 37) (.t 40)), pt 42 34 41, om 43 42, ga 44 43 false 13 2, gl 45 43 false 44, ga 46 43 false 13 3, gl 47 43 false 46, og 48 43 false (.bin .neq (.t 45) (.t 47)), pt 49 43 48, om 50 49, ga 51 50 false 14 2, gl 52 50 false 51, ga 53 50 false 14 3, gl 54 50 false 53, og 55 50 false (.bin .neq (.t 52) (.t 54)), pt 56 50 55, om 57 56, ga 58 57 false 15 2, gl 59 57 false 58, ga 60 57 false 15 3, gl 61 57 false 60, og 62 57 false (.bin .neq (.t 59) (.t 61)), pt 63 57 62]
def c34_2 : LC := .ops [oo 4 (.mov (.c (.bool false)))]
def c34_8 : LC := .ops [oa 64 12 2, ol 65 64, on 66 65, oo 67 (.mov (.c (.int .i64 0)))]
def c34_9 : LC := .ops [kb 68 .lss 67 66]
def c34_12 : LC := .ops [om 69 67, om 5 69]
def c34_13 : LC := .opsX [(oa 70 12 2, []), (ol 71 70, []), (om 72 5, []), (oo 73 (.iaddr 2 (.t 71) (.t 72)), []), (oo 74 (.load (some 2) (.t 73)), []), (oa 75 12 3, []), (ol 76 75, []), (om 77 5, []), (oo 78 (.iaddr 2 (.t 76) (.t 77)), []), (oo 79 (.load (some 2) (.t 78)), []), (oo 80 (.eq (.row [.int, .int]) true (.t 74) (.t 79)), [])]
def c34_14 : LC := .ops [oo 4 (.mov (.c (.bool false)))]
def c34_22 : LC := .ops [oo 81 (.bin .add (.t 67) (.c (.int .i64 1))), om 67 81]
def c34_29 : LC := .ops [oo 4 (.mov (.c (.bool true)))]
def c34_34 : LC := .seq c34_0 (.seq (.seq c34_1 (.cond (.t 63) (.seq c34_2 .ret) .skip)) (.seq (.seq c34_8 (.block 0 (.loop (.seq c34_9 (.seq (.cond (.t 68) .skip (.exit 0)) (.seq (.block 1 (.seq c34_12 (.seq c34_13 (.cond (.t 80) (.seq c34_14 .ret) .skip)))) c34_22)))))) (.seq c34_29 .ret)))
def c34 : LF := .mk 82 c34_34 [.tmp 4]
theorem low34 : al Tryz.prog Tryz.f34 = some c34 := by kernel_rfl
def c35_0 : LC := .ops [oo 1 (.box (.t 0)), oo 2 (.mov (.c (.bool false)))]
def c35_1 : LC := .ops [oa 5 0 1, ol 6 5, kc 7 66 [.t 6], om 8 7, ga 9 8 false 1 1, gl 10 8 false 9, og 11 8 false (.len false (.t 10)), og 12 8 false (.bin .gtr (.t 11) (.c (.int .i64 700))), pt 13 8 12]
def c35_2 : LC := .ops [oo 2 (.mov (.c (.bool false)))]
def c35_8 : LC := .ops [oa 14 1 1, ol 15 14, on 16 15, oo 17 (.mov (.c (.int .i64 0)))]
def c35_9 : LC := .ops [kb 18 .lss 17 16]
def c35_12 : LC := .ops [om 19 17, oo 20 (.iaddr 2 (.t 15) (.t 17)), oo 21 (.load (some 2) (.t 20)), oo 4 (.alloc [.int .i64 0, .int .i64 0]), om 3 19, .mk none none (.store 2 (.t 4) (.t 21))]
def c35_13 : LC := .opsX [(oa 22 1 4, []), (ol 23 22, []), (kx 24 66 [.t 23], []), (om 25 24, []), (ga 26 25 false 0 4, []), (gl 27 25 false 26, []), (og 28 25 false (.bin .lss (.t 27) (.c (.int .i64 0))), []), (pt 29 25 28, []), (om 30 29, []), (ga 31 30 false 0 4, []), (gl 32 30 false 31, []), (og 33 30 false (.bin .gtr (.t 32) (.c (.int .i64 158310720))), []), (pt 34 30 33, []), (om 35 34, []), (gm 36 35 false 3, []), (og 37 35 false (.bin .gtr (.t 36) (.c (.int .i64 0))), []), (gm 38 35 false 37, []), (ga 39 38 true 0 4, []), (gl 40 38 true 39, []), (ga 41 38 true 1 1, []), (gl 42 38 true 41, []), (gm 43 38 true 3, []), (og 44 38 true (.bin .sub (.t 43) (.c (.int .i64 1))), []), (og 45 38 true (.iaddr 2 (.t 42) (.t 44)), []), (ga 46 38 true 0 45, []), (gl 47 38 true 46, []), (og 48 38 true (.bin .lss (.t 40) (.t 47)), []), (gm 49 38 true 48, []), (ga 50 49 false 0 4, []), (gl 51 49 false 50, []), (ga 52 49 false 1 1, []), (gl 53 49 false 52, []), (gm 54 49 false 3, []), (og 55 49 false (.bin .sub (.t 54) (.c (.int .i64 1))), []), (og 56 49 false (.iaddr 2 (.t 53) (.t 55)), []), (ga 57 49 false 0 56, []), (gl 58 49 false 57, []), (og 59 49 false (.bin .sub (.t 51) (.t 58)), []), (og 60 49 false (.bin .lss (.t 59) (.c (.int .i64 2880))), []), (og 61 38 true (.pick (.t 49) (.c (.bool true)) (.t 60)), []), (og 62 35 false (.pick (.t 38) (.t 61) (.c (.bool false))), []), (pt 63 35 62, [])]
def c35_14 : LC := .ops [oo 2 (.mov (.c (.bool false)))]
def c35_22 : LC := .ops [oo 64 (.bin .add (.t 17) (.c (.int .i64 1))), om 17 64]
def c35_29 : LC := .ops [oo 2 (.mov (.c (.bool true)))]
def c35_34 : LC := .seq c35_0 (.seq (.seq c35_1 (.cond (.t 13) (.seq c35_2 .ret) .skip)) (.seq (.seq c35_8 (.block 0 (.loop (.seq c35_9 (.seq (.cond (.t 18) .skip (.exit 0)) (.seq (.block 1 (.seq c35_12 (.seq c35_13 (.cond (.t 63) (.seq c35_14 .ret) .skip)))) c35_22)))))) (.seq c35_29 .ret)))
def c35 : LF := .mk 65 c35_34 [.tmp 2]
theorem low35 : al Tryz.prog Tryz.f35 = some c35 := by kernel_rfl
def c36_0 : LC := .ops [oo 1 (.box (.t 0)), oo 2 (.mov (.c (.bool false)))]
def c36_1 : LC := .ops [oa 5 0 1, ol 6 5, on 7 6, oo 8 (.bin .gtr (.t 7) (.c (.int .i64 10))), om 9 8, ga 10 9 false 1 1, gl 11 9 false 10, og 12 9 false (.len false (.t 11)), og 13 9 false (.bin .gtr (.t 12) (.c (.int .i64 60))), pt 14 9 13]
def c36_2 : LC := .ops [oo 2 (.mov (.c (.bool false)))]
def c36_8 : LC := .ops [oa 15 1 1, ol 16 15, on 17 16, oo 18 (.mov (.c (.int .i64 0)))]
def c36_9 : LC := .ops [kb 19 .lss 18 17]
def c36_12 : LC := .ops [om 20 18, oo 21 (.iaddr 1 (.t 16) (.t 18)), ol 22 21, om 3 20, om 4 22]
def c36_13 : LC := .ops [om 23 4, oo 24 (.bin .lss (.t 23) (.c (.int .i64 0))), om 25 24, gm 26 25 false 4, og 27 25 false (.bin .geq (.t 26) (.c (.int .i64 109938))), pt 28 25 27, om 29 28, gm 30 29 false 3, og 31 29 false (.bin .gtr (.t 30) (.c (.int .i64 0))), gm 32 29 false 31, ga 33 32 true 1 1, gl 34 32 true 33, gm 35 32 true 3, og 36 32 true (.bin .sub (.t 35) (.c (.int .i64 1))), og 37 32 true (.iaddr 1 (.t 34) (.t 36)), gl 38 32 true 37, gm 39 32 true 4, og 40 32 true (.bin .geq (.t 38) (.t 39)), og 41 29 false (.pick (.t 32) (.t 40) (.c (.bool false))), pt 42 29 41]
def c36_14 : LC := .ops [oo 2 (.mov (.c (.bool false)))]
def c36_22 : LC := .ops [oo 43 (.bin .add (.t 18) (.c (.int .i64 1))), om 18 43]
def c36_29 : LC := .ops [oa 44 0 1, ol 45 44, oo 46 (.call (.c (.fn 67 [])) [.t 45, .c (.fn 68 [])]), oo 47 (.un .not (.t 46)), om 2 47]
def c36_34 : LC := .seq c36_0 (.seq (.seq c36_1 (.cond (.t 14) (.seq c36_2 .ret) .skip)) (.seq (.seq c36_8 (.block 0 (.loop (.seq c36_9 (.seq (.cond (.t 19) .skip (.exit 0)) (.seq (.block 1 (.seq c36_12 (.seq c36_13 (.cond (.t 42) (.seq c36_14 .ret) .skip)))) c36_22)))))) (.seq c36_29 .ret)))
def c36 : LF := .mk 48 c36_34 [.tmp 2]
theorem low36 : al Tryz.prog Tryz.f36 = some c36 := by kernel_rfl
def c40_0 : LC := .ops [oo 2 (.mov (.c (.list (some true) true [])))]
def c40_1 : LC := .ops [om 3 0, oo 4 (.eq .slice false (.t 3) (.c (.list (some true) true [])))]
def c40_2 : LC := .ops [oo 2 (.mov (.c (.list (some true) true [])))]
def c40_8 : LC := .ops [oo 5 (.slit 9 []), om 6 0, oo 7 (.app 9 136 (.t 5) (.t 6)), om 2 7]
def c40_12 : LC := .seq c40_0 (.seq (.seq c40_1 (.cond (.t 4) (.seq c40_2 .ret) .skip)) (.seq c40_8 .ret))
def c40 : LF := .mk 8 c40_12 [.tmp 2]
theorem low40 : al Tryz.prog Tryz.f40 = some c40 := by kernel_rfl
def c44_0 : LC := .ops [oo 2 (.box (.t 0)), oo 3 (.box (.t 1)), oo 4 (.mov (.c (.bool false)))]
def c44_1 : LC := .ops [oa 6 0 2, oa 7 0 6, ol 8 7, oa 9 0 3, oa 10 0 9, ol 11 10, kb 12 .neq 8 11, om 13 12, ga 14 13 false 0 2, ga 15 13 false 1 14, gl 16 13 false 15, og 17 13 false (.len false (.t 16)), ga 18 13 false 0 3, ga 19 13 false 1 18, gl 20 13 false 19, og 21 13 false (.len false (.t 20)), og 22 13 false (.bin .neq (.t 17) (.t 21)), pt 23 13 22, om 24 23, ga 25 24 false 4 2, gl 26 24 false 25, ga 27 24 false 4 3, gl 28 24 false 27, og 29 24 false (.bin .neq (.t 26) (.t 28)), pt 30 24 29, om 31 30, ga 32 31 false 5 2, gl 33 31 false 32, ga 34 31 false 5 3, gl 35 31 false 34, og 36 31 false (.bin .neq (.t 33) (.t 35)), pt 37 31 36]
def c44_2 : LC := .ops [oo 4 (.mov (.c (.bool false)))]
def c44_8 : LC := .ops [oa 38 0 2, oa 39 1 38, ol 40 39, on 41 40, oo 42 (.mov (.c (.int .i64 0)))]
def c44_9 : LC := .ops [kb 43 .lss 42 41]
def c44_12 : LC := .ops [om 44 42, om 5 44]
def c44_13 : LC := .opsX [(oa 45 0 2, []), (oa 46 1 45, []), (ol 47 46, []), (om 48 5, []), (oo 49 (.iaddr 2 (.t 47) (.t 48)), []), (oo 50 (.load (some 2) (.t 49)), []), (oa 51 0 3, []), (oa 52 1 51, []), (ol 53 52, []), (om 54 5, []), (oo 55 (.iaddr 2 (.t 53) (.t 54)), []), (oo 56 (.load (some 2) (.t 55)), []), (oo 57 (.eq (.row [.int, .int]) true (.t 50) (.t 56)), [])]
def c44_14 : LC := .ops [oo 4 (.mov (.c (.bool false)))]
def c44_22 : LC := .ops [oo 58 (.bin .add (.t 42) (.c (.int .i64 1))), om 42 58]
def c44_29 : LC := .ops [oa 59 2 2, oa 60 0 59, ol 61 60, oa 62 2 3, oa 63 0 62, ol 64 63, kc 65 71 [.t 61, .t 64], om 66 65, ga 67 66 true 2 2, ga 68 66 true 1 67, gl 69 66 true 68, ga 70 66 true 2 3, ga 71 66 true 1 70, gl 72 66 true 71, gk 73 66 true 72 [.t 69, .t 72], pf 74 66 73, om 4 74]
def c44_34 : LC := .seq c44_0 (.seq (.seq c44_1 (.cond (.t 37) (.seq c44_2 .ret) .skip)) (.seq (.seq c44_8 (.block 0 (.loop (.seq c44_9 (.seq (.cond (.t 43) .skip (.exit 0)) (.seq (.block 1 (.seq c44_12 (.seq c44_13 (.cond (.t 57) (.seq c44_14 .ret) .skip)))) c44_22)))))) (.seq c44_29 .ret)))
def c44 : LF := .mk 75 c44_34 [.tmp 4]
theorem low44 : al Tryz.prog Tryz.f44 = some c44 := by kernel_rfl
def c45_0 : LC := .ops [oo 2 (.box (.t 0)), oo 4 (.mov (.c (.int .i64 0))), oo 5 (.mov (.c (.bool false)))]
def c45_1 : LC := .ops [oa 6 8 2, ol 7 6, om 8 1, oo 9 (.call (.c (.fn 73 [])) [.t 7, .t 8, .c (.fn 74 [])]), oo 10 (.ext 0 (.t 9)), oo 11 (.ext 1 (.t 9)), om 4 10, om 5 11]
def c45_4 : LC := .seq c45_0 (.seq c45_1 .ret)
def c45 : LF := .mk 12 c45_4 [.tmp 4, .tmp 5]
theorem low45 : al Tryz.prog Tryz.f45 = some c45 := by kernel_rfl
def c46_0 : LC := .ops [oo 1 (.box (.t 0)), oo 2 (.mov (.c (.bool false)))]
def c46_1 : LC := .ops [oa 3 0 1, ol 4 3, kc 5 75 [.t 4], oo 6 (.un .not (.t 5)), om 7 6, ga 8 7 false 1 1, gl 9 7 false 8, og 10 7 false (.bin .lss (.t 9) (.c (.int .i64 1))), pt 11 7 10, om 12 11, ga 13 12 false 1 1, gl 14 12 false 13, og 15 12 false (.bin .gtr (.t 14) (.c (.int .i64 10080))), pt 16 12 15]
def c46_2 : LC := .ops [oo 2 (.mov (.c (.bool false)))]
def c46_8 : LC := .ops [oa 17 3 1, ol 18 17, oo 19 (.un .not (.t 18))]
def c46_9 : LC := .ops [oa 20 4 1, oo 21 (.load (some 9) (.t 20)), oo 22 (.build [.int .i64 0, .int .i64 0, .int .i64 0, .int .i64 0, .list (some true) true [], .list (some true) true [], .list (some true) true [], .list (some true) true [], .int .i64 0] []), kc 23 76 [.t 21, .t 22], om 24 23, ga 25 24 true 13 1, gl 26 24 true 25, og 27 24 true (.len false (.t 26)), ga 28 24 true 14 1, gl 29 24 true 28, og 30 24 true (.len false (.t 29)), og 31 24 true (.bin .add (.t 27) (.t 30)), ga 32 24 true 15 1, gl 33 24 true 32, og 34 24 true (.len false (.t 33)), og 35 24 true (.bin .add (.t 31) (.t 34)), og 36 24 true (.bin .eql (.t 35) (.c (.int .i64 0))), pf 37 24 36, om 2 37]
def c46_15 : LC := .ops [oa 38 2 1, ol 39 38, oo 40 (.un .not (.t 39)), om 41 40, ga 42 41 true 4 1, og 43 41 true (.load (some 9) (.t 42)), gk 44 41 true 77 [.t 43], pf 45 41 44, om 46 45, ga 47 46 true 13 1, gl 48 46 true 47, gk 49 46 true 78 [.t 48], pf 50 46 49, om 51 50, ga 52 51 true 14 1, gl 53 51 true 52, gk 54 51 true 78 [.t 53], pf 55 51 54, om 56 55, ga 57 56 true 15 1, gl 58 56 true 57, gk 59 56 true 79 [.t 58], pf 60 56 59, om 2 60]
def c46_20 : LC := .seq c46_0 (.seq (.seq c46_1 (.cond (.t 16) (.seq c46_2 .ret) .skip)) (.seq (.seq c46_8 (.cond (.t 19) (.seq c46_9 .ret) .skip)) (.seq c46_15 .ret)))
def c46 : LF := .mk 61 c46_20 [.tmp 2]
theorem low46 : al Tryz.prog Tryz.f46 = some c46 := by kernel_rfl
def c47_0 : LC := .ops [oo 2 (.mov (.c (.list (some true) true [])))]
def c47_1 : LC := .ops [om 3 0, oo 4 (.eq .slice false (.t 3) (.c (.list (some true) true [])))]
def c47_2 : LC := .ops [oo 2 (.mov (.c (.list (some true) true [])))]
def c47_8 : LC := .ops [oo 5 (.slit 17 []), om 6 0, oo 7 (.app 17 240 (.t 5) (.t 6)), om 2 7]
def c47_12 : LC := .seq c47_0 (.seq (.seq c47_1 (.cond (.t 4) (.seq c47_2 .ret) .skip)) (.seq c47_8 .ret))
def c47 : LF := .mk 8 c47_12 [.tmp 2]
theorem low47 : al Tryz.prog Tryz.f47 = some c47 := by kernel_rfl
def c48_0 : LC := .ops [oo 6 (.mov (.c (.list (some true) true [])))]
def c48_1 : LC := .ops [om 10 0, om 11 1, oo 12 (.slice false 17 (.t 10) (some (.t 11)) none)]
def c48_2 : LC := .ops [om 13 2, on 14 13, om 7 14]
def c48_3 : LC := .ops [om 15 7, oo 16 (.bin .eql (.t 15) (.c (.int .i64 0)))]
def c48_4 : LC := .ops [om 17 0, om 6 17]
def c48_10 : LC := .ops [om 18 0, on 19 18, om 8 19]
def c48_11 : LC := .ops [om 20 1, om 21 8, kb 22 .eql 20 21]
def c48_12 : LC := .ops [om 23 0, om 24 2, oo 25 (.app 17 240 (.t 23) (.t 24)), om 6 25]
def c48_18 : LC := .ops [om 26 8, om 27 7, kb 28 .add 26 27, om 29 0, oo 30 (.cap (.t 29)), kb 31 .gtr 28 30]
def c48_19 : LC := .ops [om 32 0, om 33 1, oo 34 (.slice false 17 (.t 32) none (some (.t 33))), om 35 8, om 36 7, kb 37 .add 35 36, om 38 1, kb 39 .sub 37 38, oo 40 (.appz 17 240 [.int .u32 0, .int .i64 0, .int .i64 0, .bool false, .bool false, .int .i64 0, .int .i64 0, .int .i64 0, .int .i64 0, .list (some true) true [], .list (some true) true [], .list (some true) true [], .list (some true) true [], .int .i64 0, .list (some true) true [], .list (some true) true [], .list (some true) true []] (.t 34) (.t 39)), om 9 40]
def c48_20 : LC := .ops [om 41 9, om 42 1, oo 43 (.slice false 17 (.t 41) (some (.t 42)) none), om 44 2, oo 45 (.copy 17 (.t 43) (.t 44))]
def c48_21 : LC := .opsX [(om 46 9, []), (om 47 1, []), (om 48 7, []), (kb 49 .add 47 48, []), (oo 50 (.slice false 17 (.t 46) (some (.t 49)) none), []), (om 51 0, []), (om 52 1, []), (oo 53 (.slice false 17 (.t 51) (some (.t 52)) none), []), (oo 54 (.copy 17 (.t 50) (.t 53)), [])]
def c48_22 : LC := .ops [om 55 9, om 6 55]
def c48_31 : LC := .ops [om 56 0, om 57 8, om 58 7, kb 59 .add 57 58, oo 60 (.slice false 17 (.t 56) none (some (.t 59))), om 0 60]
def c48_32 : LC := .ops [om 61 2, om 62 0, om 63 1, om 64 7, kb 65 .add 63 64, oo 66 (.slice false 17 (.t 62) (some (.t 65)) none), oo 67 (.ovl (.t 61) (.t 66)), oo 68 (.un .not (.t 67))]
def c48_33 : LC := .opsX [(om 69 0, []), (om 70 1, []), (om 71 7, []), (kb 72 .add 70 71, []), (oo 73 (.slice false 17 (.t 69) (some (.t 72)) none), []), (om 74 0, []), (om 75 1, []), (oo 76 (.slice false 17 (.t 74) (some (.t 75)) none), []), (oo 77 (.copy 17 (.t 73) (.t 76)), [])]
def c48_34 : LC := .ops [om 78 0, om 79 1, oo 80 (.slice false 17 (.t 78) (some (.t 79)) none), om 81 2, oo 82 (.copy 17 (.t 80) (.t 81))]
def c48_35 : LC := .ops [om 83 0, om 6 83]
def c48_43 : LC := .ops [om 84 0, om 85 8, oo 86 (.slice false 17 (.t 84) (some (.t 85)) none), om 87 2, oo 88 (.copy 17 (.t 86) (.t 87))]
def c48_44 : LC := .ops [om 89 0, om 90 1, oo 91 (.slice false 17 (.t 89) (some (.t 90)) none), om 92 7, kc 93 81 [.t 91, .t 92]]
def c48_45 : LC := .ops [om 94 0, om 6 94]
def c48_58 : LC := .seq c48_0 (.seq c48_1 (.seq c48_2 (.seq (.seq c48_3 (.cond (.t 16) (.seq c48_4 .ret) .skip)) (.seq c48_10 (.seq (.seq c48_11 (.cond (.t 22) (.seq c48_12 .ret) .skip)) (.seq (.seq c48_18 (.cond (.t 31) (.seq c48_19 (.seq c48_20 (.seq c48_21 (.seq c48_22 .ret)))) .skip)) (.seq c48_31 (.seq (.seq c48_32 (.cond (.t 68) (.seq c48_33 (.seq c48_34 (.seq c48_35 .ret))) .skip)) (.seq c48_43 (.seq c48_44 (.seq c48_45 .ret)))))))))))
def c48 : LF := .mk 95 c48_58 [.tmp 6]
theorem low48 : al Tryz.prog Tryz.f48 = some c48 := by kernel_rfl
def c49_0 : LC := .ops [oo 1 (.box (.t 0)), oo 2 (.mov (.c (.bool false)))]
def c49_1 : LC := .ops [oa 5 0 1, ol 6 5, kc 7 82 [.t 6], oo 8 (.un .not (.t 7)), om 9 8, ga 10 9 false 1 1, gl 11 9 false 10, og 12 9 false (.bin .lss (.t 11) (.c (.int .i64 1))), pt 13 9 12, om 14 13, ga 15 14 false 1 1, gl 16 14 false 15, og 17 14 false (.bin .gtr (.t 16) (.c (.int .i64 10080))), pt 18 14 17]
def c49_2 : LC := .ops [oo 2 (.mov (.c (.bool false)))]
def c49_8 : LC := .ops [oa 19 3 1, ol 20 19, oo 21 (.un .not (.t 20))]
def c49_9 : LC := .ops [oa 22 4 1, oo 23 (.load (some 9) (.t 22)), oo 24 (.build [.int .i64 0, .int .i64 0, .int .i64 0, .int .i64 0, .list (some true) true [], .list (some true) true [], .list (some true) true [], .list (some true) true [], .int .i64 0] []), kc 25 52 [.t 23, .t 24], om 26 25, ga 27 26 true 13 1, gl 28 26 true 27, og 29 26 true (.len false (.t 28)), og 30 26 true (.bin .eql (.t 29) (.c (.int .i64 0))), pf 31 26 30, om 32 31, ga 33 32 true 14 1, gl 34 32 true 33, og 35 32 true (.len false (.t 34)), og 36 32 true (.bin .eql (.t 35) (.c (.int .i64 0))), pf 37 32 36, om 38 37, ga 39 38 true 15 1, gl 40 38 true 39, og 41 38 true (.len false (.t 40)), og 42 38 true (.bin .eql (.t 41) (.c (.int .i64 0))), pf 43 38 42, om 2 43]
def c49_15 : LC := .ops [oa 44 2 1, ol 45 44, om 46 45, ga 47 46 false 4 1, og 48 46 false (.load (some 9) (.t 47)), gk 49 46 false 83 [.t 48], og 50 46 false (.un .not (.t 49)), pt 51 46 50, om 52 51, ga 53 52 false 13 1, gl 54 52 false 53, gk 55 52 false 84 [.t 54], og 56 52 false (.un .not (.t 55)), pt 57 52 56, om 58 57, ga 59 58 false 14 1, gl 60 58 false 59, gk 61 58 false 84 [.t 60], og 62 58 false (.un .not (.t 61)), pt 63 58 62, om 64 63, ga 65 64 false 15 1, gl 66 64 false 65, og 67 64 false (.len false (.t 66)), og 68 64 false (.bin .gtr (.t 67) (.c (.int .i64 50))), pt 69 64 68]
def c49_16 : LC := .ops [oo 2 (.mov (.c (.bool false)))]
def c49_22 : LC := .ops [oa 70 15 1, ol 71 70, on 72 71, oo 73 (.mov (.c (.int .i64 0)))]
def c49_23 : LC := .ops [kb 74 .lss 73 72]
def c49_26 : LC := .ops [om 75 73, om 3 75]
def c49_27 : LC := .ops [oa 76 15 1, ol 77 76, om 78 3, oo 79 (.iaddr 3 (.t 77) (.t 78)), oo 80 (.load (some 3) (.t 79)), oo 4 (.alloc [.int .i64 0, .int .i64 0, .int .i64 0]), .mk none none (.store 3 (.t 4) (.t 80))]
def c49_28 : LC := .opsX [(oa 81 0 4, []), (ol 82 81, []), (kx 83 82 [.t 82], []), (oo 84 (.un .not (.t 83)), []), (om 85 84, []), (ga 86 85 false 1 4, []), (gl 87 85 false 86, []), (og 88 85 false (.callX (.c (.fn 82 [])) [.t 87]), []), (og 89 85 false (.un .not (.t 88)), []), (pt 90 85 89, []), (om 91 90, []), (ga 92 91 false 2 4, []), (gl 93 91 false 92, []), (og 94 91 false (.bin .lss (.t 93) (.c (.int .i64 0))), []), (pt 95 91 94, []), (om 96 95, []), (ga 97 96 false 2 4, []), (gl 98 96 false 97, []), (og 99 96 false (.bin .gtr (.t 98) (.c (.int .i64 10080))), []), (pt 100 96 99, []), (om 101 100, []), (gm 102 101 false 3, []), (og 103 101 false (.bin .gtr (.t 102) (.c (.int .i64 0))), []), (gm 104 101 false 103, []), (ga 105 104 true 15 1, []), (gl 106 104 true 105, []), (gm 107 104 true 3, []), (og 108 104 true (.bin .sub (.t 107) (.c (.int .i64 1))), []), (og 109 104 true (.iaddr 3 (.t 106) (.t 108)), []), (ga 110 104 true 0 109, []), (gl 111 104 true 110, []), (ga 112 104 true 0 4, []), (gl 113 104 true 112, []), (og 114 104 true (.bin .geq (.t 111) (.t 113)), []), (og 115 101 false (.pick (.t 104) (.t 114) (.c (.bool false))), []), (pt 116 101 115, [])]
def c49_29 : LC := .ops [oo 2 (.mov (.c (.bool false)))]
def c49_38 : LC := .ops [oo 117 (.bin .add (.t 73) (.c (.int .i64 1))), om 73 117]
def c49_45 : LC := .ops [oo 2 (.mov (.c (.bool true)))]
def c49_52 : LC := .seq c49_0 (.seq (.seq c49_1 (.cond (.t 18) (.seq c49_2 .ret) .skip)) (.seq (.seq c49_8 (.cond (.t 21) (.seq c49_9 .ret) .skip)) (.seq (.seq c49_15 (.cond (.t 69) (.seq c49_16 .ret) .skip)) (.seq (.seq c49_22 (.block 0 (.loop (.seq c49_23 (.seq (.cond (.t 74) .skip (.exit 0)) (.seq (.block 1 (.seq c49_26 (.seq c49_27 (.seq c49_28 (.cond (.t 116) (.seq c49_29 .ret) .skip))))) c49_38)))))) (.seq c49_45 .ret)))))
def c49 : LF := .mk 118 c49_52 [.tmp 2]
theorem low49 : al Tryz.prog Tryz.f49 = some c49 := by kernel_rfl
def c50_0 : LC := .ops [oo 6 (.mov (.c (.list (some true) true [])))]
def c50_1 : LC := .ops [oo 9 (.slit 17 []), om 7 9]
def c50_2 : LC := .ops [om 10 0, on 11 10, oo 12 (.mov (.c (.int .i64 0)))]
def c50_3 : LC := .ops [kb 13 .lss 12 11]
def c50_6 : LC := .ops [om 14 12, om 8 14]
def c50_7 : LC := .ops [om 15 0, om 16 8, oo 17 (.iaddr 17 (.t 15) (.t 16)), oa 18 0 17, ol 19 18, om 20 1, kb 21 .neq 19 20, om 22 21, gm 23 22 true 0, gm 24 22 true 8, og 25 22 true (.iaddr 17 (.t 23) (.t 24)), ga 26 22 true 0 25, gl 27 22 true 26, gm 28 22 true 1, og 29 22 true (.bin .gtr (.t 27) (.t 28)), gm 30 22 true 2, og 31 22 true (.eq .bool false (.t 29) (.t 30)), pf 32 22 31]
def c50_8 : LC := .ops [om 33 7, om 34 0, om 35 8, oo 36 (.iaddr 17 (.t 34) (.t 35)), oo 37 (.load (some 17) (.t 36)), oo 38 (.slit 17 [.t 37]), oo 39 (.app 17 240 (.t 33) (.t 38)), om 7 39]
def c50_14 : LC := .ops [oo 40 (.bin .add (.t 12) (.c (.int .i64 1))), om 12 40]
def c50_21 : LC := .ops [om 41 7, om 6 41]
def c50_26 : LC := .seq c50_0 (.seq c50_1 (.seq (.seq c50_2 (.block 0 (.loop (.seq c50_3 (.seq (.cond (.t 13) .skip (.exit 0)) (.seq (.block 1 (.seq c50_6 (.seq c50_7 (.cond (.t 32) c50_8 .skip)))) c50_14)))))) (.seq c50_21 .ret)))
def c50 : LF := .mk 42 c50_26 [.tmp 6]
theorem low50 : al Tryz.prog Tryz.f50 = some c50 := by kernel_rfl
def c51_0 : LC := .ops [oo 6 (.mov (.c (.list (some true) true [])))]
def c51_1 : LC := .ops [om 8 0, om 9 1, om 10 2, om 11 0, on 12 11, oo 13 (.slice3 17 (.t 8) (some (.t 9)) (.t 10) (.t 12))]
def c51_2 : LC := .ops [om 14 1, om 15 2, kb 16 .eql 14 15]
def c51_3 : LC := .ops [om 17 0, om 6 17]
def c51_9 : LC := .ops [om 18 0, on 19 18, om 7 19]
def c51_10 : LC := .opsX [(om 20 0, []), (om 21 1, []), (oo 22 (.slice false 17 (.t 20) none (some (.t 21))), []), (om 23 0, []), (om 24 2, []), (oo 25 (.slice false 17 (.t 23) (some (.t 24)) none), []), (oo 26 (.app 17 240 (.t 22) (.t 25)), []), (om 0 26, [])]
def c51_11 : LC := .ops [om 27 0, om 28 0, on 29 28, om 30 7, oo 31 (.slice false 17 (.t 27) (some (.t 29)) (some (.t 30))), .mk none none (.clear [.int .u32 0, .int .i64 0, .int .i64 0, .bool false, .bool false, .int .i64 0, .int .i64 0, .int .i64 0, .int .i64 0, .list (some true) true [], .list (some true) true [], .list (some true) true [], .list (some true) true [], .int .i64 0, .list (some true) true [], .list (some true) true [], .list (some true) true []] (.t 31))]
def c51_12 : LC := .ops [om 32 0, om 6 32]
def c51_20 : LC := .seq c51_0 (.seq c51_1 (.seq (.seq c51_2 (.cond (.t 16) (.seq c51_3 .ret) .skip)) (.seq c51_9 (.seq c51_10 (.seq c51_11 (.seq c51_12 .ret))))))
def c51 : LF := .mk 33 c51_20 [.tmp 6]
theorem low51 : al Tryz.prog Tryz.f51 = some c51 := by kernel_rfl
def c52_0 : LC := .ops [oo 2 (.box (.t 0)), oo 3 (.box (.t 1)), oo 4 (.mov (.c (.bool false)))]
def c52_1 : LC := .ops [oa 6 0 2, ol 7 6, oa 8 0 3, ol 9 8, kb 10 .neq 7 9, om 11 10, ga 12 11 false 1 2, gl 13 11 false 12, ga 14 11 false 1 3, gl 15 11 false 14, og 16 11 false (.bin .neq (.t 13) (.t 15)), pt 17 11 16, om 18 17, ga 19 18 false 2 2, gl 20 18 false 19, ga 21 18 false 2 3, gl 22 18 false 21, og 23 18 false (.bin .neq (.t 20) (.t 22)), pt 24 18 23, om 25 24, ga 26 25 false 3 2, gl 27 25 false 26, ga 28 25 false 3 3, gl 29 25 false 28, og 30 25 false (.bin .neq (.t 27) (.t 29)), pt 31 25 30, om 32 31, ga 33 32 false 8 2, gl 34 32 false 33, ga 35 32 false 8 3, gl 36 32 false 35, og 37 32 false (.bin .neq (.t 34) (.t 36)), pt 38 32 37, om 39 38, ga 40 39 false 6 2, gl 41 39 false 40, og 42 39 false (.len false (.t 41)), ga 43 39 false 6 3, gl 44 39 false 43, og 45 39 false (.len false (.t 44)), og 46 39 false (.bin .neq (.t 42) (.t 45)), pt 47 39 46]
def c52_2 : LC := .ops [oo 4 (.mov (.c (.bool false)))]
def c52_8 : LC := .ops [oa 48 6 2, ol 49 48, on 50 49, oo 51 (.mov (.c (.int .i64 0)))]
def c52_9 : LC := .ops [kb 52 .lss 51 50]
def c52_12 : LC := .ops [om 53 51, om 5 53]
def c52_13 : LC := .opsX [(oa 54 6 2, []), (ol 55 54, []), (om 56 5, []), (oo 57 (.iaddr 2 (.t 55) (.t 56)), []), (oo 58 (.load (some 2) (.t 57)), []), (oa 59 6 3, []), (ol 60 59, []), (om 61 5, []), (oo 62 (.iaddr 2 (.t 60) (.t 61)), []), (oo 63 (.load (some 2) (.t 62)), []), (oo 64 (.eq (.row [.int, .int]) true (.t 58) (.t 63)), [])]
def c52_14 : LC := .ops [oo 4 (.mov (.c (.bool false)))]
def c52_22 : LC := .ops [oo 65 (.bin .add (.t 51) (.c (.int .i64 1))), om 51 65]
def c52_29 : LC := .ops [oa 66 4 2, ol 67 66, oa 68 4 3, ol 69 68, kc 70 85 [.t 67, .t 69], om 71 70, ga 72 71 true 5 2, gl 73 71 true 72, ga 74 71 true 5 3, gl 75 71 true 74, gk 76 71 true 85 [.t 73, .t 75], pf 77 71 76, om 78 77, ga 79 78 true 7 2, gl 80 78 true 79, ga 81 78 true 7 3, gl 82 78 true 81, gk 83 78 true 85 [.t 80, .t 82], pf 84 78 83, om 4 84]
def c52_34 : LC := .seq c52_0 (.seq (.seq c52_1 (.cond (.t 47) (.seq c52_2 .ret) .skip)) (.seq (.seq c52_8 (.block 0 (.loop (.seq c52_9 (.seq (.cond (.t 52) .skip (.exit 0)) (.seq (.block 1 (.seq c52_12 (.seq c52_13 (.cond (.t 64) (.seq c52_14 .ret) .skip)))) c52_22)))))) (.seq c52_29 .ret)))
def c52 : LF := .mk 85 c52_34 [.tmp 4]
theorem low52 : al Tryz.prog Tryz.f52 = some c52 := by kernel_rfl
def c53_0 : LC := .ops [oo 4 (.mov (.c (.bool false)))]
def c53_1 : LC := .ops [om 6 0, on 7 6, om 8 1, on 9 8, kb 10 .neq 7 9]
def c53_2 : LC := .ops [oo 4 (.mov (.c (.bool false)))]
def c53_8 : LC := .ops [om 11 0, on 12 11, oo 13 (.mov (.c (.int .i64 0)))]
def c53_9 : LC := .ops [kb 14 .lss 13 12]
def c53_12 : LC := .ops [om 15 13, om 5 15]
def c53_13 : LC := .opsX [(om 16 0, []), (om 17 5, []), (oo 18 (.iaddr 1 (.t 16) (.t 17)), []), (ol 19 18, []), (om 20 1, []), (om 21 5, []), (oo 22 (.iaddr 1 (.t 20) (.t 21)), []), (ol 23 22, []), (kb 24 .neq 19 23, [])]
def c53_14 : LC := .ops [oo 4 (.mov (.c (.bool false)))]
def c53_22 : LC := .ops [oo 25 (.bin .add (.t 13) (.c (.int .i64 1))), om 13 25]
def c53_29 : LC := .ops [oo 4 (.mov (.c (.bool true)))]
def c53_34 : LC := .seq c53_0 (.seq (.seq c53_1 (.cond (.t 10) (.seq c53_2 .ret) .skip)) (.seq (.seq c53_8 (.block 0 (.loop (.seq c53_9 (.seq (.cond (.t 14) .skip (.exit 0)) (.seq (.block 1 (.seq c53_12 (.seq c53_13 (.cond (.t 24) (.seq c53_14 .ret) .skip)))) c53_22)))))) (.seq c53_29 .ret)))
def c53 : LF := .mk 26 c53_34 [.tmp 4]
theorem low53 : al Tryz.prog Tryz.f53 = some c53 := by kernel_rfl
def c54_0 : LC := .ops [oo 1 (.box (.t 0)), oo 2 (.mov (.c (.bool false)))]
def c54_1 : LC := .ops [oa 3 2 1, oo 4 (.load (some 9) (.t 3)), kc 5 86 [.t 4], om 6 5, ga 7 6 false 11 1, gl 8 6 false 7, og 9 6 false (.len false (.t 8)), og 10 6 false (.bin .gtr (.t 9) (.c (.int .i64 80))), pt 11 6 10, om 12 11, ga 13 12 false 12 1, gl 14 12 false 13, og 15 12 false (.len false (.t 14)), og 16 12 false (.bin .gtr (.t 15) (.c (.int .i64 300))), pt 17 12 16, om 2 17]
def c54_4 : LC := .seq c54_0 (.seq c54_1 .ret)
def c54 : LF := .mk 18 c54_4 [.tmp 2]
theorem low54 : al Tryz.prog Tryz.f54 = some c54 := by kernel_rfl
def c55_0 : LC := .ops [oo 0 (.mov (.c .nilp))]
def c55_1 : LC := .ops [oo 1 (.build [.list (some true) true []] []), oo 2 (.box (.t 1)), om 0 2]
def c55_4 : LC := .seq c55_0 (.seq c55_1 .ret)
def c55 : LF := .mk 3 c55_4 [.tmp 0]
theorem low55 : al Tryz.prog Tryz.f55 = some c55 := by kernel_rfl
def c56_0 : LC := .ops [oo 2 (.box (.t 0))]
def c56_1 : LC := .opsX [(ol 4 2, []), (om 5 1, []), (kk 6 5, []), (oa 7 0 6, []), (kx 8 87 [.t 4, .t 7], [])]
def c56_2 : LC := .opsX [(ol 9 2, []), (om 10 1, []), (kk 11 10, []), (oa 12 1 11, []), (ol 13 2, []), (oo 14 (.mkfn 4185 [.t 13]), []), (kx 15 88 [.t 9, .t 12, .c (.int .i64 100), .t 14], [])]
def c56_3 : LC := .opsX [(ol 16 2, []), (om 17 1, []), (kk 18 17, []), (oa 19 2 18, []), (ol 20 2, []), (oo 21 (.mkfn 4187 [.t 20]), []), (kx 22 90 [.t 16, .t 19, .c (.int .i64 50), .t 21], [])]
def c56_4 : LC := .opsX [(ol 23 2, []), (om 24 1, []), (kk 25 24, []), (oa 26 3 25, []), (oo 27 (.mkfn 93 [.t 2]), []), (kx 28 92 [.t 23, .t 26, .c (.int .i64 4096), .t 27], [])]
def c56_8 : LC := .seq c56_0 (.seq c56_1 (.seq c56_2 (.seq c56_3 c56_4)))
def c56 : LF := .mk 29 c56_8 []
theorem low56 : al Tryz.prog Tryz.f56 = some c56 := by kernel_rfl
def c57_0 : LC := .ops [oo 4 (.mov (.c (.list (some true) true []))), oo 5 (.mov (.c (.bool false)))]
def c57_1 : LC := .ops [om 7 0, kk 8 7, oa 9 0 8, ol 10 9, kc 11 96 [.t 10], om 6 11]
def c57_2 : LC := .ops [om 12 0, kk 13 12, oa 14 2 13, ol 15 14, om 16 15, gm 17 16 false 6, og 18 16 false (.len false (.t 17)), gm 19 16 false 1, og 20 16 false (.bin .gtr (.t 18) (.t 19)), pt 21 16 20]
def c57_3 : LC := .ops [oo 4 (.mov (.c (.list (some true) true []))), oo 5 (.mov (.c (.bool false)))]
def c57_9 : LC := .ops [om 22 6, om 4 22, oo 5 (.mov (.c (.bool true)))]
def c57_14 : LC := .seq c57_0 (.seq c57_1 (.seq (.seq c57_2 (.cond (.t 21) (.seq c57_3 .ret) .skip)) (.seq c57_9 .ret)))
def c57 : LF := .mk 23 c57_14 [.tmp 4, .tmp 5]
theorem low57 : al Tryz.prog Tryz.f57 = some c57 := by kernel_rfl
def c58_0 : LC := .ops [oo 2 (.box (.t 0)), oo 3 (.box (.t 1)), oo 4 (.mov (.c (.bool false)))]
def c58_1 : LC := .ops [oa 5 0 2, ol 6 5, oa 7 0 3, ol 8 7, kb 9 .eql 6 8, om 10 9, ga 11 10 true 3 2, gl 12 10 true 11, ga 13 10 true 3 3, gl 14 10 true 13, gk 15 10 true 97 [.t 12, .t 14], pf 16 10 15, om 17 16, ga 18 17 true 2 2, gl 19 17 true 18, ga 20 17 true 2 3, gl 21 17 true 20, og 22 17 true (.call (.c (.fn 98 [])) [.t 19, .t 21, .c (.fn 99 [])]), pf 23 17 22, om 24 23, ga 25 24 true 1 2, gl 26 24 true 25, ga 27 24 true 1 3, gl 28 24 true 27, og 29 24 true (.call (.c (.fn 100 [])) [.t 26, .t 28, .c (.fn 101 [])]), pf 30 24 29, om 4 30]
def c58_4 : LC := .seq c58_0 (.seq c58_1 .ret)
def c58 : LF := .mk 31 c58_4 [.tmp 4]
theorem low58 : al Tryz.prog Tryz.f58 = some c58 := by kernel_rfl
def c59_0 : LC := .ops [oo 2 (.mov (.c .nilp))]
def c59_1 : LC := .ops [om 3 0, kc 4 106 [.t 3], oo 5 (.build [.list (some true) true [], .bool false] [(0, 1, .t 4)]), oo 6 (.box (.t 5)), om 2 6]
def c59_4 : LC := .seq c59_0 (.seq c59_1 .ret)
def c59 : LF := .mk 7 c59_4 [.tmp 2]
theorem low59 : al Tryz.prog Tryz.f59 = some c59 := by kernel_rfl
def c60_0 : LC := .ops [oo 6 (.mov (.c (.bool false)))]
def c60_1 : LC := .ops [om 7 0, kk 8 7, oa 9 2 8, ol 10 9, oo 11 (.un .not (.t 10)), om 12 11, gm 13 12 true 0, og 14 12 true (.chk (.t 13)), ga 15 12 true 1 14, gl 16 12 true 15, gk 17 12 true 107 [.t 16], pf 18 12 17, om 19 18, gm 20 19 true 1, og 21 19 true (.len false (.t 20)), gm 22 19 true 2, og 23 19 true (.bin .leq (.t 21) (.t 22)), pf 24 19 23, om 6 24]
def c60_4 : LC := .seq c60_0 (.seq c60_1 .ret)
def c60 : LF := .mk 25 c60_4 [.tmp 6]
theorem low60 : al Tryz.prog Tryz.f60 = some c60 := by kernel_rfl
def c61_0 : LC := .ops [oo 6 (.mov (.c (.int .i64 0))), oo 7 (.mov (.c (.bool false)))]
def c61_1 : LC := .ops [om 12 0, on 13 12, om 8 13]
def c61_2 : LC := .ops [om 14 8, oo 9 (.mov (.c (.int .i64 0))), om 10 14]
def c61_3 : LC := .ops [om 15 9, om 16 10, kb 17 .lss 15 16]
def c61_7 : LC := .ops [om 18 9, om 19 10, kb 20 .add 18 19, oo 21 (.conv .u64 (.t 20)), oo 22 (.bin .shr (.t 21) (.c (.int .u64 1))), oo 23 (.conv .i64 (.t 22)), om 11 23]
def c61_8 : LC := .ops [om 24 2, om 25 0, om 26 11, oo 27 (.iaddr 9 (.t 25) (.t 26)), oo 28 (.load (some 9) (.t 27)), om 29 1, oo 30 (.call (.t 24) [.t 28, .t 29]), oo 31 (.bin .lss (.t 30) (.c (.int .i64 0)))]
def c61_9 : LC := .ops [om 32 11, oo 33 (.bin .add (.t 32) (.c (.int .i64 1))), om 9 33]
def c61_10 : LC := .ops [om 34 11, om 10 34]
def c61_18 : LC := .ops [om 35 9, om 36 9, om 37 8, kb 38 .lss 36 37, om 39 38, gm 40 39 true 2, gm 41 39 true 0, gm 42 39 true 9, og 43 39 true (.iaddr 9 (.t 41) (.t 42)), og 44 39 true (.load (some 9) (.t 43)), gm 45 39 true 1, og 46 39 true (.call (.t 40) [.t 44, .t 45]), og 47 39 true (.bin .eql (.t 46) (.c (.int .i64 0))), pf 48 39 47, om 6 35, om 7 48]
def c61_24 : LC := .seq c61_0 (.seq c61_1 (.seq c61_2 (.seq (.block 0 (.loop (.seq (.seq c61_3 (.cond (.t 17) .skip (.exit 0))) (.block 1 (.seq c61_7 (.seq c61_8 (.cond (.t 31) c61_9 c61_10))))))) (.seq c61_18 .ret))))
def c61 : LF := .mk 49 c61_24 [.tmp 6, .tmp 7]
theorem low61 : al Tryz.prog Tryz.f61 = some c61 := by kernel_rfl
def c62_0 : LC := .ops [oo 2 (.box (.t 0)), oo 4 (.mov (.c (.int .i64 0)))]
def c62_1 : LC := .ops [oa 5 0 2, ol 6 5, om 7 1, kc 8 63 [.t 6, .t 7], om 4 8]
def c62_4 : LC := .seq c62_0 (.seq c62_1 .ret)
def c62 : LF := .mk 9 c62_4 [.tmp 4]
theorem low62 : al Tryz.prog Tryz.f62 = some c62 := by kernel_rfl
def c63_0 : LC := .ops [oo 4 (.mov (.c (.int .i64 0)))]
def c63_1 : LC := .ops [om 7 0, kc 8 108 [.t 7], om 5 8]
def c63_2 : LC := .ops [om 9 1, kc 10 108 [.t 9], om 6 10]
def c63_3 : LC := .ops [om 11 5]
def c63_4 : LC := .ops [om 12 6]
def c63_5 : LC := .ops [oo 4 (.mov (.c (.int .i64 0)))]
def c63_11 : LC := .ops [oo 4 (.mov (.c (.int .i64 (-1))))]
def c63_18 : LC := .ops [om 13 6]
def c63_19 : LC := .ops [oo 4 (.mov (.c (.int .i64 1)))]
def c63_25 : LC := .ops [om 14 0, om 15 1, kb 16 .lss 14 15]
def c63_26 : LC := .ops [oo 4 (.mov (.c (.int .i64 (-1))))]
def c63_32 : LC := .ops [om 17 0, om 18 1, kb 19 .gtr 17 18]
def c63_33 : LC := .ops [oo 4 (.mov (.c (.int .i64 1)))]
def c63_39 : LC := .ops [oo 4 (.mov (.c (.int .i64 0)))]
def c63_48 : LC := .seq c63_0 (.seq c63_1 (.seq c63_2 (.seq (.seq c63_3 (.cond (.t 11) (.seq (.seq c63_4 (.cond (.t 12) (.seq c63_5 .ret) .skip)) (.seq c63_11 .ret)) .skip)) (.seq (.seq c63_18 (.cond (.t 13) (.seq c63_19 .ret) .skip)) (.seq (.seq c63_25 (.cond (.t 16) (.seq c63_26 .ret) .skip)) (.seq (.seq c63_32 (.cond (.t 19) (.seq c63_33 .ret) .skip)) (.seq c63_39 .ret)))))))
def c63 : LF := .mk 20 c63_48 [.tmp 4]
theorem low63 : al Tryz.prog Tryz.f63 = some c63 := by kernel_rfl
def c64_0 : LC := .ops [oo 6 (.mov (.c (.list (some true) true [])))]
def c64_1 : LC := .ops [om 10 0, om 11 1, oo 12 (.slice false 9 (.t 10) (some (.t 11)) none)]
def c64_2 : LC := .ops [om 13 2, on 14 13, om 7 14]
def c64_3 : LC := .ops [om 15 7, oo 16 (.bin .eql (.t 15) (.c (.int .i64 0)))]
def c64_4 : LC := .ops [om 17 0, om 6 17]
def c64_10 : LC := .ops [om 18 0, on 19 18, om 8 19]
def c64_11 : LC := .ops [om 20 1, om 21 8, kb 22 .eql 20 21]
def c64_12 : LC := .ops [om 23 0, om 24 2, oo 25 (.app 9 136 (.t 23) (.t 24)), om 6 25]
def c64_18 : LC := .ops [om 26 8, om 27 7, kb 28 .add 26 27, om 29 0, oo 30 (.cap (.t 29)), kb 31 .gtr 28 30]
def c64_19 : LC := .ops [om 32 0, om 33 1, oo 34 (.slice false 9 (.t 32) none (some (.t 33))), om 35 8, om 36 7, kb 37 .add 35 36, om 38 1, kb 39 .sub 37 38, oo 40 (.appz 9 136 [.int .u32 0, .int .i64 0, .list (some true) true [], .list (some true) true [], .list (some true) true [], .int .i64 0, .int .i64 0, .int .u64 0, .list (some true) true []] (.t 34) (.t 39)), om 9 40]
def c64_20 : LC := .ops [om 41 9, om 42 1, oo 43 (.slice false 9 (.t 41) (some (.t 42)) none), om 44 2, oo 45 (.copy 9 (.t 43) (.t 44))]
def c64_21 : LC := .opsX [(om 46 9, []), (om 47 1, []), (om 48 7, []), (kb 49 .add 47 48, []), (oo 50 (.slice false 9 (.t 46) (some (.t 49)) none), []), (om 51 0, []), (om 52 1, []), (oo 53 (.slice false 9 (.t 51) (some (.t 52)) none), []), (oo 54 (.copy 9 (.t 50) (.t 53)), [])]
def c64_22 : LC := .ops [om 55 9, om 6 55]
def c64_31 : LC := .ops [om 56 0, om 57 8, om 58 7, kb 59 .add 57 58, oo 60 (.slice false 9 (.t 56) none (some (.t 59))), om 0 60]
def c64_32 : LC := .ops [om 61 2, om 62 0, om 63 1, om 64 7, kb 65 .add 63 64, oo 66 (.slice false 9 (.t 62) (some (.t 65)) none), oo 67 (.ovl (.t 61) (.t 66)), oo 68 (.un .not (.t 67))]
def c64_33 : LC := .opsX [(om 69 0, []), (om 70 1, []), (om 71 7, []), (kb 72 .add 70 71, []), (oo 73 (.slice false 9 (.t 69) (some (.t 72)) none), []), (om 74 0, []), (om 75 1, []), (oo 76 (.slice false 9 (.t 74) (some (.t 75)) none), []), (oo 77 (.copy 9 (.t 73) (.t 76)), [])]
def c64_34 : LC := .ops [om 78 0, om 79 1, oo 80 (.slice false 9 (.t 78) (some (.t 79)) none), om 81 2, oo 82 (.copy 9 (.t 80) (.t 81))]
def c64_35 : LC := .ops [om 83 0, om 6 83]
def c64_43 : LC := .ops [om 84 0, om 85 8, oo 86 (.slice false 9 (.t 84) (some (.t 85)) none), om 87 2, oo 88 (.copy 9 (.t 86) (.t 87))]
def c64_44 : LC := .ops [om 89 0, om 90 1, oo 91 (.slice false 9 (.t 89) (some (.t 90)) none), om 92 7, kc 93 110 [.t 91, .t 92]]
def c64_45 : LC := .ops [om 94 0, om 6 94]
def c64_58 : LC := .seq c64_0 (.seq c64_1 (.seq c64_2 (.seq (.seq c64_3 (.cond (.t 16) (.seq c64_4 .ret) .skip)) (.seq c64_10 (.seq (.seq c64_11 (.cond (.t 22) (.seq c64_12 .ret) .skip)) (.seq (.seq c64_18 (.cond (.t 31) (.seq c64_19 (.seq c64_20 (.seq c64_21 (.seq c64_22 .ret)))) .skip)) (.seq c64_31 (.seq (.seq c64_32 (.cond (.t 68) (.seq c64_33 (.seq c64_34 (.seq c64_35 .ret))) .skip)) (.seq c64_43 (.seq c64_44 (.seq c64_45 .ret)))))))))))
def c64 : LF := .mk 95 c64_58 [.tmp 6]
theorem low64 : al Tryz.prog Tryz.f64 = some c64 := by kernel_rfl
def c65_0 : LC := .ops [oo 2 (.box (.t 0)), oo 3 (.box (.t 1)), oo 4 (.mov (.c (.bool false)))]
def c65_1 : LC := .ops [oa 8 0 2, oo 9 (.load (some 2) (.t 8)), oa 10 0 3, oo 11 (.load (some 2) (.t 10)), oo 12 (.eq (.row [.int, .int]) true (.t 9) (.t 11)), om 13 12, ga 14 13 false 2 2, gl 15 13 false 14, ga 16 13 false 2 3, gl 17 13 false 16, og 18 13 false (.bin .neq (.t 15) (.t 17)), pt 19 13 18, om 20 19, ga 21 20 false 3 2, gl 22 20 false 21, ga 23 20 false 3 3, gl 24 20 false 23, og 25 20 false (.bin .neq (.t 22) (.t 24)), pt 26 20 25, om 27 26, ga 28 27 false 6 2, gl 29 27 false 28, ga 30 27 false 6 3, gl 31 27 false 30, og 32 27 false (.bin .neq (.t 29) (.t 31)), pt 33 27 32, om 34 33, ga 35 34 false 4 2, gl 36 34 false 35, og 37 34 false (.len false (.t 36)), ga 38 34 false 4 3, gl 39 34 false 38, og 40 34 false (.len false (.t 39)), og 41 34 false (.bin .neq (.t 37) (.t 40)), pt 42 34 41, om 43 42, ga 44 43 false 5 2, gl 45 43 false 44, og 46 43 false (.len false (.t 45)), ga 47 43 false 5 3, gl 48 43 false 47, og 49 43 false (.len false (.t 48)), og 50 43 false (.bin .neq (.t 46) (.t 49)), pt 51 43 50, om 52 51, ga 53 52 false 7 2, gl 54 52 false 53, og 55 52 false (.len false (.t 54)), ga 56 52 false 7 3, gl 57 52 false 56, og 58 52 false (.len false (.t 57)), og 59 52 false (.bin .neq (.t 55) (.t 58)), pt 60 52 59]
def c65_2 : LC := .ops [oo 4 (.mov (.c (.bool false)))]
def c65_8 : LC := .ops [oa 61 4 2, ol 62 61, on 63 62, oo 64 (.mov (.c (.int .i64 0)))]
def c65_9 : LC := .ops [kb 65 .lss 64 63]
def c65_12 : LC := .ops [om 66 64, om 5 66]
def c65_13 : LC := .opsX [(oa 67 4 2, []), (ol 68 67, []), (om 69 5, []), (oo 70 (.iaddr 1 (.t 68) (.t 69)), []), (ol 71 70, []), (oa 72 4 3, []), (ol 73 72, []), (om 74 5, []), (oo 75 (.iaddr 1 (.t 73) (.t 74)), []), (ol 76 75, []), (kb 77 .neq 71 76, [])]
def c65_14 : LC := .ops [oo 4 (.mov (.c (.bool false)))]
def c65_22 : LC := .ops [oo 78 (.bin .add (.t 64) (.c (.int .i64 1))), om 64 78]
def c65_29 : LC := .ops [oa 79 5 2, ol 80 79, on 81 80, oo 82 (.mov (.c (.int .i64 0)))]
def c65_30 : LC := .ops [kb 83 .lss 82 81]
def c65_33 : LC := .ops [om 84 82, om 6 84]
def c65_34 : LC := .opsX [(oa 85 5 2, []), (ol 86 85, []), (om 87 6, []), (oo 88 (.iaddr 2 (.t 86) (.t 87)), []), (oo 89 (.load (some 2) (.t 88)), []), (oa 90 5 3, []), (ol 91 90, []), (om 92 6, []), (oo 93 (.iaddr 2 (.t 91) (.t 92)), []), (oo 94 (.load (some 2) (.t 93)), []), (oo 95 (.eq (.row [.int, .int]) true (.t 89) (.t 94)), [])]
def c65_35 : LC := .ops [oo 4 (.mov (.c (.bool false)))]
def c65_43 : LC := .ops [oo 96 (.bin .add (.t 82) (.c (.int .i64 1))), om 82 96]
def c65_50 : LC := .ops [oa 97 7 2, ol 98 97, on 99 98, oo 100 (.mov (.c (.int .i64 0)))]
def c65_51 : LC := .ops [kb 101 .lss 100 99]
def c65_54 : LC := .ops [om 102 100, om 7 102]
def c65_55 : LC := .opsX [(oa 103 7 2, []), (ol 104 103, []), (om 105 7, []), (oo 106 (.iaddr 2 (.t 104) (.t 105)), []), (oo 107 (.load (some 2) (.t 106)), []), (oa 108 7 3, []), (ol 109 108, []), (om 110 7, []), (oo 111 (.iaddr 2 (.t 109) (.t 110)), []), (oo 112 (.load (some 2) (.t 111)), []), (oo 113 (.eq (.row [.int, .int]) true (.t 107) (.t 112)), [])]
def c65_56 : LC := .ops [oo 4 (.mov (.c (.bool false)))]
def c65_64 : LC := .ops [oo 114 (.bin .add (.t 100) (.c (.int .i64 1))), om 100 114]
def c65_71 : LC := .ops [oa 115 8 2, ol 116 115, oa 117 8 3, ol 118 117, kc 119 71 [.t 116, .t 118], om 4 119]
def c65_78 : LC := .seq c65_0 (.seq (.seq c65_1 (.cond (.t 60) (.seq c65_2 .ret) .skip)) (.seq (.seq c65_8 (.block 0 (.loop (.seq c65_9 (.seq (.cond (.t 65) .skip (.exit 0)) (.seq (.block 1 (.seq c65_12 (.seq c65_13 (.cond (.t 77) (.seq c65_14 .ret) .skip)))) c65_22)))))) (.seq (.seq c65_29 (.block 2 (.loop (.seq c65_30 (.seq (.cond (.t 83) .skip (.exit 2)) (.seq (.block 3 (.seq c65_33 (.seq c65_34 (.cond (.t 95) (.seq c65_35 .ret) .skip)))) c65_43)))))) (.seq (.seq c65_50 (.block 4 (.loop (.seq c65_51 (.seq (.cond (.t 101) .skip (.exit 4)) (.seq (.block 5 (.seq c65_54 (.seq c65_55 (.cond (.t 113) (.seq c65_56 .ret) .skip)))) c65_64)))))) (.seq c65_71 .ret)))))
def c65 : LF := .mk 120 c65_78 [.tmp 4]
theorem low65 : al Tryz.prog Tryz.f65 = some c65 := by kernel_rfl
def c66_0 : LC := .ops [oo 2 (.mov (.c (.bool false)))]
def c66_1 : LC := .ops [om 3 0, oo 4 (.bin .lss (.t 3) (.c (.int .i64 (-900)))), om 5 4, gm 6 5 false 0, og 7 5 false (.bin .gtr (.t 6) (.c (.int .i64 900))), pt 8 5 7, om 2 8]
def c66_4 : LC := .seq c66_0 (.seq c66_1 .ret)
def c66 : LF := .mk 9 c66_4 [.tmp 2]
theorem low66 : al Tryz.prog Tryz.f66 = some c66 := by kernel_rfl
def c67_0 : LC := .ops [oo 4 (.mov (.c (.bool false)))]
def c67_1 : LC := .ops [om 5 0, om 6 1, kc 7 111 [.t 5, .t 6], oo 8 (.bin .geq (.t 7) (.c (.int .i64 0))), om 4 8]
def c67_4 : LC := .seq c67_0 (.seq c67_1 .ret)
def c67 : LF := .mk 9 c67_4 [.tmp 4]
theorem low67 : al Tryz.prog Tryz.f67 = some c67 := by kernel_rfl
def c71_0 : LC := .ops [oo 4 (.mov (.c (.bool false)))]
def c71_1 : LC := .ops [om 6 0, on 7 6, om 8 1, on 9 8, kb 10 .neq 7 9]
def c71_2 : LC := .ops [oo 4 (.mov (.c (.bool false)))]
def c71_8 : LC := .ops [om 11 0, on 12 11, oo 13 (.mov (.c (.int .i64 0)))]
def c71_9 : LC := .ops [kb 14 .lss 13 12]
def c71_12 : LC := .ops [om 15 13, om 5 15]
def c71_13 : LC := .opsX [(om 16 0, []), (om 17 5, []), (oo 18 (.iaddr 3 (.t 16) (.t 17)), []), (oo 19 (.load (some 3) (.t 18)), []), (om 20 1, []), (om 21 5, []), (oo 22 (.iaddr 3 (.t 20) (.t 21)), []), (oo 23 (.load (some 3) (.t 22)), []), (oo 24 (.eq (.row [.int, .int, .int]) true (.t 19) (.t 23)), [])]
def c71_14 : LC := .ops [oo 4 (.mov (.c (.bool false)))]
def c71_22 : LC := .ops [oo 25 (.bin .add (.t 13) (.c (.int .i64 1))), om 13 25]
def c71_29 : LC := .ops [oo 4 (.mov (.c (.bool true)))]
def c71_34 : LC := .seq c71_0 (.seq (.seq c71_1 (.cond (.t 10) (.seq c71_2 .ret) .skip)) (.seq (.seq c71_8 (.block 0 (.loop (.seq c71_9 (.seq (.cond (.t 14) .skip (.exit 0)) (.seq (.block 1 (.seq c71_12 (.seq c71_13 (.cond (.t 24) (.seq c71_14 .ret) .skip)))) c71_22)))))) (.seq c71_29 .ret)))
def c71 : LF := .mk 26 c71_34 [.tmp 4]
theorem low71 : al Tryz.prog Tryz.f71 = some c71 := by kernel_rfl
def c72_0 : LC := .ops [oo 4 (.mov (.c (.bool false)))]
def c72_1 : LC := .ops [om 6 0, on 7 6, om 8 1, on 9 8, kb 10 .neq 7 9]
def c72_2 : LC := .ops [oo 4 (.mov (.c (.bool false)))]
def c72_8 : LC := .ops [om 11 0, on 12 11, oo 13 (.mov (.c (.int .i64 0)))]
def c72_9 : LC := .ops [kb 14 .lss 13 12]
def c72_12 : LC := .ops [om 15 13, om 5 15]
def c72_13 : LC := .opsX [(om 16 0, []), (om 17 5, []), (oo 18 (.iaddr 1 (.t 16) (.t 17)), []), (ol 19 18, []), (om 20 1, []), (om 21 5, []), (oo 22 (.iaddr 1 (.t 20) (.t 21)), []), (ol 23 22, []), (kb 24 .neq 19 23, [])]
def c72_14 : LC := .ops [oo 4 (.mov (.c (.bool false)))]
def c72_22 : LC := .ops [oo 25 (.bin .add (.t 13) (.c (.int .i64 1))), om 13 25]
def c72_29 : LC := .ops [oo 4 (.mov (.c (.bool true)))]
def c72_34 : LC := .seq c72_0 (.seq (.seq c72_1 (.cond (.t 10) (.seq c72_2 .ret) .skip)) (.seq (.seq c72_8 (.block 0 (.loop (.seq c72_9 (.seq (.cond (.t 14) .skip (.exit 0)) (.seq (.block 1 (.seq c72_12 (.seq c72_13 (.cond (.t 24) (.seq c72_14 .ret) .skip)))) c72_22)))))) (.seq c72_29 .ret)))
def c72 : LF := .mk 26 c72_34 [.tmp 4]
theorem low72 : al Tryz.prog Tryz.f72 = some c72 := by kernel_rfl
def c73_0 : LC := .ops [oo 6 (.mov (.c (.int .i64 0))), oo 7 (.mov (.c (.bool false)))]
def c73_1 : LC := .ops [om 12 0, on 13 12, om 8 13]
def c73_2 : LC := .ops [om 14 8, oo 9 (.mov (.c (.int .i64 0))), om 10 14]
def c73_3 : LC := .ops [om 15 9, om 16 10, kb 17 .lss 15 16]
def c73_7 : LC := .ops [om 18 9, om 19 10, kb 20 .add 18 19, oo 21 (.conv .u64 (.t 20)), oo 22 (.bin .shr (.t 21) (.c (.int .u64 1))), oo 23 (.conv .i64 (.t 22)), om 11 23]
def c73_8 : LC := .ops [om 24 2, om 25 0, om 26 11, oo 27 (.iaddr 17 (.t 25) (.t 26)), oo 28 (.load (some 17) (.t 27)), om 29 1, oo 30 (.call (.t 24) [.t 28, .t 29]), oo 31 (.bin .lss (.t 30) (.c (.int .i64 0)))]
def c73_9 : LC := .ops [om 32 11, oo 33 (.bin .add (.t 32) (.c (.int .i64 1))), om 9 33]
def c73_10 : LC := .ops [om 34 11, om 10 34]
def c73_18 : LC := .ops [om 35 9, om 36 9, om 37 8, kb 38 .lss 36 37, om 39 38, gm 40 39 true 2, gm 41 39 true 0, gm 42 39 true 9, og 43 39 true (.iaddr 17 (.t 41) (.t 42)), og 44 39 true (.load (some 17) (.t 43)), gm 45 39 true 1, og 46 39 true (.call (.t 40) [.t 44, .t 45]), og 47 39 true (.bin .eql (.t 46) (.c (.int .i64 0))), pf 48 39 47, om 6 35, om 7 48]
def c73_24 : LC := .seq c73_0 (.seq c73_1 (.seq c73_2 (.seq (.block 0 (.loop (.seq (.seq c73_3 (.cond (.t 17) .skip (.exit 0))) (.block 1 (.seq c73_7 (.seq c73_8 (.cond (.t 31) c73_9 c73_10))))))) (.seq c73_18 .ret))))
def c73 : LF := .mk 49 c73_24 [.tmp 6, .tmp 7]
theorem low73 : al Tryz.prog Tryz.f73 = some c73 := by kernel_rfl
def c74_0 : LC := .ops [oo 2 (.box (.t 0)), oo 4 (.mov (.c (.int .i64 0)))]
def c74_1 : LC := .ops [oa 5 0 2, ol 6 5, om 7 1, kc 8 63 [.t 6, .t 7], om 4 8]
def c74_4 : LC := .seq c74_0 (.seq c74_1 .ret)
def c74 : LF := .mk 9 c74_4 [.tmp 4]
theorem low74 : al Tryz.prog Tryz.f74 = some c74 := by kernel_rfl
def c75_0 : LC := .ops [oo 2 (.mov (.c (.bool false)))]
def c75_1 : LC := .ops [om 3 0, oo 4 (.bin .geq (.t 3) (.c (.int .i64 0))), om 5 4, gm 6 5 true 0, og 7 5 true (.bin .lss (.t 6) (.c (.int .i64 158310720))), pf 8 5 7, om 2 8]
def c75_4 : LC := .seq c75_0 (.seq c75_1 .ret)
def c75 : LF := .mk 9 c75_4 [.tmp 2]
theorem low75 : al Tryz.prog Tryz.f75 = some c75 := by kernel_rfl
def c76_0 : LC := .ops [oo 2 (.box (.t 0)), oo 3 (.box (.t 1)), oo 4 (.mov (.c (.bool false)))]
def c76_1 : LC := .ops [oa 5 0 2, ol 6 5, oa 7 0 3, ol 8 7, kb 9 .eql 6 8, om 10 9, ga 11 10 true 1 2, gl 12 10 true 11, ga 13 10 true 1 3, gl 14 10 true 13, og 15 10 true (.bin .eql (.t 12) (.t 14)), pf 16 10 15, om 17 16, ga 18 17 true 2 2, gl 19 17 true 18, ga 20 17 true 2 3, gl 21 17 true 20, og 22 17 true (.bin .eql (.t 19) (.t 21)), pf 23 17 22, om 24 23, ga 25 24 true 3 2, gl 26 24 true 25, ga 27 24 true 3 3, gl 28 24 true 27, og 29 24 true (.bin .eql (.t 26) (.t 28)), pf 30 24 29, om 31 30, ga 32 31 true 8 2, gl 33 31 true 32, ga 34 31 true 8 3, gl 35 31 true 34, og 36 31 true (.bin .eql (.t 33) (.t 35)), pf 37 31 36, om 38 37, ga 39 38 true 4 2, gl 40 38 true 39, ga 41 38 true 4 3, gl 42 38 true 41, gk 43 38 true 112 [.t 40, .t 42], pf 44 38 43, om 45 44, ga 46 45 true 5 2, gl 47 45 true 46, ga 48 45 true 5 3, gl 49 45 true 48, gk 50 45 true 112 [.t 47, .t 49], pf 51 45 50, om 52 51, ga 53 52 true 6 2, gl 54 52 true 53, ga 55 52 true 6 3, gl 56 52 true 55, gk 57 52 true 113 [.t 54, .t 56], pf 58 52 57, om 59 58, ga 60 59 true 7 2, gl 61 59 true 60, ga 62 59 true 7 3, gl 63 59 true 62, gk 64 59 true 112 [.t 61, .t 63], pf 65 59 64, om 4 65]
def c76_4 : LC := .seq c76_0 (.seq c76_1 .ret)
def c76 : LF := .mk 66 c76_4 [.tmp 4]
theorem low76 : al Tryz.prog Tryz.f76 = some c76 := by kernel_rfl
def c77_0 : LC := .ops [oo 1 (.box (.t 0)), oo 2 (.mov (.c (.bool false)))]
def c77_1 : LC := .ops [oa 4 4 1, ol 5 4, on 6 5, oa 7 5 1, ol 8 7, on 9 8, kb 10 .add 6 9, oa 11 6 1, ol 12 11, on 13 12, kb 14 .add 10 13, oo 15 (.bin .gtr (.t 14) (.c (.int .i64 0))), om 3 15]
def c77_2 : LC := .ops [oa 16 0 1, ol 17 16, oo 18 (.bin .geq (.t 17) (.c (.int .i64 1))), om 19 18, ga 20 19 true 0 1, gl 21 19 true 20, og 22 19 true (.bin .leq (.t 21) (.c (.int .i64 4))), pf 23 19 22, om 24 23, ga 25 24 true 1 1, gl 26 24 true 25, og 27 24 true (.bin .geq (.t 26) (.c (.int .i64 1))), pf 28 24 27, om 29 28, ga 30 29 true 1 1, gl 31 29 true 30, og 32 29 true (.bin .leq (.t 31) (.c (.int .i64 999))), pf 33 29 32, om 34 33, og 35 34 true (.load (some 9) (.t 1)), gk 36 34 true 114 [.t 35], pf 37 34 36, om 38 37, ga 39 38 true 4 1, gl 40 38 true 39, gk 41 38 true 115 [.t 40, .c (.int .i64 12), .c (.bool false)], pf 42 38 41, om 43 42, ga 44 43 true 5 1, gl 45 43 true 44, gk 46 43 true 115 [.t 45, .c (.int .i64 31), .c (.bool true)], pf 47 43 46, om 48 47, ga 49 48 true 0 1, gl 50 48 true 49, og 51 48 true (.bin .neq (.t 50) (.c (.int .i64 2))), gm 52 48 true 51, ga 53 52 false 5 1, gl 54 52 false 53, og 55 52 false (.len false (.t 54)), og 56 52 false (.bin .eql (.t 55) (.c (.int .i64 0))), og 57 48 true (.pick (.t 52) (.c (.bool true)) (.t 56)), pf 58 48 57, om 59 58, og 60 59 true (.load (some 9) (.t 1)), gk 61 59 true 116 [.t 60], pf 62 59 61, om 63 62, ga 64 63 true 7 1, gl 65 63 true 64, gk 66 63 true 115 [.t 65, .c (.int .i64 366), .c (.bool true)], pf 67 63 66, om 68 67, gm 69 68 true 3, gm 70 68 true 69, ga 71 70 false 7 1, gl 72 70 false 71, og 73 70 false (.len false (.t 72)), og 74 70 false (.bin .eql (.t 73) (.c (.int .i64 0))), og 75 68 true (.pick (.t 70) (.c (.bool true)) (.t 74)), pf 76 68 75, om 77 76, ga 78 77 true 8 1, gl 79 77 true 78, og 80 77 true (.bin .geq (.t 79) (.c (.int .i64 0))), pf 81 77 80, om 82 81, ga 83 82 true 8 1, gl 84 82 true 83, og 85 82 true (.bin .leq (.t 84) (.c (.int .i64 6))), pf 86 82 85, om 2 86]
def c77_6 : LC := .seq c77_0 (.seq c77_1 (.seq c77_2 .ret))
def c77 : LF := .mk 87 c77_6 [.tmp 2]
theorem low77 : al Tryz.prog Tryz.f77 = some c77 := by kernel_rfl
def c78_0 : LC := .ops [oo 2 (.mov (.c (.bool false)))]
def c78_1 : LC := .ops [om 5 0, on 6 5, oo 7 (.mov (.c (.int .i64 0)))]
def c78_2 : LC := .ops [kb 8 .lss 7 6]
def c78_5 : LC := .ops [om 9 7, oo 10 (.iaddr 1 (.t 5) (.t 7)), ol 11 10, om 3 9, om 4 11]
def c78_6 : LC := .ops [om 12 4, kc 13 75 [.t 12], oo 14 (.un .not (.t 13)), om 15 14, gm 16 15 false 3, og 17 15 false (.bin .gtr (.t 16) (.c (.int .i64 0))), gm 18 15 false 17, gm 19 18 true 0, gm 20 18 true 3, og 21 18 true (.bin .sub (.t 20) (.c (.int .i64 1))), og 22 18 true (.iaddr 1 (.t 19) (.t 21)), gl 23 18 true 22, gm 24 18 true 4, og 25 18 true (.bin .geq (.t 23) (.t 24)), og 26 15 false (.pick (.t 18) (.t 25) (.c (.bool false))), pt 27 15 26]
def c78_7 : LC := .ops [oo 2 (.mov (.c (.bool false)))]
def c78_15 : LC := .ops [oo 28 (.bin .add (.t 7) (.c (.int .i64 1))), om 7 28]
def c78_22 : LC := .ops [om 29 0, on 30 29, oo 31 (.bin .leq (.t 30) (.c (.int .i64 50))), om 2 31]
def c78_26 : LC := .seq c78_0 (.seq (.seq c78_1 (.block 0 (.loop (.seq c78_2 (.seq (.cond (.t 8) .skip (.exit 0)) (.seq (.block 1 (.seq c78_5 (.seq c78_6 (.cond (.t 27) (.seq c78_7 .ret) .skip)))) c78_15)))))) (.seq c78_22 .ret))
def c78 : LF := .mk 32 c78_26 [.tmp 2]
theorem low78 : al Tryz.prog Tryz.f78 = some c78 := by kernel_rfl
def c79_0 : LC := .ops [oo 2 (.mov (.c (.bool false)))]
def c79_1 : LC := .ops [oo 3 (.mov (.c (.list (some true) true [])))]
def c79_2 : LC := .ops [om 6 0, on 7 6, oo 8 (.mov (.c (.int .i64 0)))]
def c79_3 : LC := .ops [kb 9 .lss 8 7]
def c79_6 : LC := .ops [oo 10 (.iaddr 3 (.t 6) (.t 8)), oo 11 (.load (some 3) (.t 10)), oo 5 (.alloc [.int .i64 0, .int .i64 0, .int .i64 0]), .mk none none (.store 3 (.t 5) (.t 11))]
def c79_7 : LC := .ops [oa 12 1 5, ol 13 12, kc 14 75 [.t 13], oo 15 (.un .not (.t 14)), om 16 15, ga 17 16 false 2 5, gl 18 16 false 17, og 19 16 false (.bin .lss (.t 18) (.c (.int .i64 0))), pt 20 16 19, om 21 20, ga 22 21 false 2 5, gl 23 21 false 22, og 24 21 false (.bin .gtr (.t 23) (.c (.int .i64 10080))), pt 25 21 24]
def c79_8 : LC := .ops [oo 2 (.mov (.c (.bool false)))]
def c79_14 : LC := .ops [om 26 3, oa 27 0 5, ol 28 27, oo 29 (.slit 1 [.t 28]), oo 30 (.app 1 8 (.t 26) (.t 29)), om 3 30]
def c79_18 : LC := .ops [oo 31 (.bin .add (.t 8) (.c (.int .i64 1))), om 8 31]
def c79_25 : LC := .ops [om 32 3, kc 33 78 [.t 32], om 2 33]
def c79_30 : LC := .seq c79_0 (.seq c79_1 (.seq (.seq c79_2 (.block 0 (.loop (.seq c79_3 (.seq (.cond (.t 9) .skip (.exit 0)) (.seq (.block 1 (.seq c79_6 (.seq (.seq c79_7 (.cond (.t 25) (.seq c79_8 .ret) .skip)) c79_14))) c79_18)))))) (.seq c79_25 .ret)))
def c79 : LF := .mk 34 c79_30 [.tmp 2]
theorem low79 : al Tryz.prog Tryz.f79 = some c79 := by kernel_rfl
def c82_0 : LC := .ops [oo 2 (.mov (.c (.bool false)))]
def c82_1 : LC := .ops [om 3 0, oo 4 (.bin .geq (.t 3) (.c (.int .i64 0))), om 5 4, gm 6 5 true 0, og 7 5 true (.bin .lss (.t 6) (.c (.int .i64 158310720))), pf 8 5 7, om 2 8]
def c82_4 : LC := .seq c82_0 (.seq c82_1 .ret)
def c82 : LF := .mk 9 c82_4 [.tmp 2]
theorem low82 : al Tryz.prog Tryz.f82 = some c82 := by kernel_rfl
def c83_0 : LC := .ops [oo 1 (.box (.t 0)), oo 2 (.mov (.c (.bool false)))]
def c83_1 : LC := .ops [oa 3 0 1, ol 4 3, oo 5 (.bin .lss (.t 4) (.c (.int .i64 1))), om 6 5, ga 7 6 false 0 1, gl 8 6 false 7, og 9 6 false (.bin .gtr (.t 8) (.c (.int .i64 4))), pt 10 6 9, om 11 10, ga 12 11 false 1 1, gl 13 11 false 12, og 14 11 false (.bin .lss (.t 13) (.c (.int .i64 1))), pt 15 11 14, om 16 15, ga 17 16 false 1 1, gl 18 16 false 17, og 19 16 false (.bin .gtr (.t 18) (.c (.int .i64 999))), pt 20 16 19, om 21 20, ga 22 21 false 2 1, gl 23 21 false 22, og 24 21 false (.bin .lss (.t 23) (.c (.int .i64 0))), pt 25 21 24, om 26 25, ga 27 26 false 2 1, gl 28 26 false 27, og 29 26 false (.bin .gtr (.t 28) (.c (.int .i64 5000))), pt 30 26 29, om 31 30, ga 32 31 false 8 1, gl 33 31 false 32, og 34 31 false (.bin .lss (.t 33) (.c (.int .i64 0))), pt 35 31 34, om 36 35, ga 37 36 false 8 1, gl 38 36 false 37, og 39 36 false (.bin .gtr (.t 38) (.c (.int .i64 6))), pt 40 36 39]
def c83_2 : LC := .ops [oo 2 (.mov (.c (.bool false)))]
def c83_8 : LC := .ops [oa 41 3 1, ol 42 41, oo 43 (.bin .neq (.t 42) (.c (.int .i64 (-1)))), om 44 43, ga 45 44 true 3 1, gl 46 44 true 45, og 47 44 true (.bin .lss (.t 46) (.c (.int .i64 0))), gm 48 44 true 47, ga 49 48 false 3 1, gl 50 48 false 49, og 51 48 false (.bin .geq (.t 50) (.c (.int .i64 158310720))), og 52 44 true (.pick (.t 48) (.c (.bool true)) (.t 51)), gm 53 44 true 52, ga 54 53 false 2 1, gl 55 53 false 54, og 56 53 false (.bin .gtr (.t 55) (.c (.int .i64 0))), og 57 44 true (.pick (.t 53) (.c (.bool true)) (.t 56)), pf 58 44 57]
def c83_9 : LC := .ops [oo 2 (.mov (.c (.bool false)))]
def c83_15 : LC := .ops [oa 59 4 1, ol 60 59, kc 61 118 [.t 60, .c (.int .i64 12), .c (.bool false)], oo 62 (.un .not (.t 61)), om 63 62, ga 64 63 false 5 1, gl 65 63 false 64, gk 66 63 false 118 [.t 65, .c (.int .i64 31), .c (.bool true)], og 67 63 false (.un .not (.t 66)), pt 68 63 67, om 69 68, ga 70 69 false 7 1, gl 71 69 false 70, gk 72 69 false 118 [.t 71, .c (.int .i64 366), .c (.bool true)], og 73 69 false (.un .not (.t 72)), pt 74 69 73, om 75 74, og 76 75 false (.load (some 9) (.t 1)), gk 77 75 false 119 [.t 76], og 78 75 false (.un .not (.t 77)), pt 79 75 78]
def c83_16 : LC := .ops [oo 2 (.mov (.c (.bool false)))]
def c83_22 : LC := .ops [oa 80 0 1, ol 81 80, oo 82 (.bin .eql (.t 81) (.c (.int .i64 2))), om 83 82, ga 84 83 true 5 1, gl 85 83 true 84, og 86 83 true (.len false (.t 85)), og 87 83 true (.bin .gtr (.t 86) (.c (.int .i64 0))), pf 88 83 87]
def c83_23 : LC := .ops [oo 2 (.mov (.c (.bool false)))]
def c83_29 : LC := .ops [oa 89 7 1, ol 90 89, on 91 90, oo 92 (.bin .eql (.t 91) (.c (.int .i64 0))), om 93 92, ga 94 93 false 4 1, gl 95 93 false 94, og 96 93 false (.len false (.t 95)), og 97 93 false (.bin .gtr (.t 96) (.c (.int .i64 0))), pt 98 93 97, om 99 98, ga 100 99 false 5 1, gl 101 99 false 100, og 102 99 false (.len false (.t 101)), og 103 99 false (.bin .gtr (.t 102) (.c (.int .i64 0))), pt 104 99 103, om 105 104, ga 106 105 false 6 1, gl 107 105 false 106, og 108 105 false (.len false (.t 107)), og 109 105 false (.bin .gtr (.t 108) (.c (.int .i64 0))), pt 110 105 109, om 2 110]
def c83_36 : LC := .seq c83_0 (.seq (.seq c83_1 (.cond (.t 40) (.seq c83_2 .ret) .skip)) (.seq (.seq c83_8 (.cond (.t 58) (.seq c83_9 .ret) .skip)) (.seq (.seq c83_15 (.cond (.t 79) (.seq c83_16 .ret) .skip)) (.seq (.seq c83_22 (.cond (.t 88) (.seq c83_23 .ret) .skip)) (.seq c83_29 .ret)))))
def c83 : LF := .mk 111 c83_36 [.tmp 2]
theorem low83 : al Tryz.prog Tryz.f83 = some c83 := by kernel_rfl
def c84_0 : LC := .ops [oo 2 (.mov (.c (.bool false)))]
def c84_1 : LC := .ops [om 4 0, on 5 4, oo 6 (.mov (.c (.int .i64 0)))]
def c84_2 : LC := .ops [kb 7 .lss 6 5]
def c84_5 : LC := .ops [om 8 6, om 3 8]
def c84_6 : LC := .opsX [(om 9 0, []), (om 10 3, []), (oo 11 (.iaddr 1 (.t 9) (.t 10)), []), (ol 12 11, []), (kx 13 82 [.t 12], []), (oo 14 (.un .not (.t 13)), []), (om 15 14, []), (gm 16 15 false 3, []), (og 17 15 false (.bin .gtr (.t 16) (.c (.int .i64 0))), []), (gm 18 15 false 17, []), (gm 19 18 true 0, []), (gm 20 18 true 3, []), (og 21 18 true (.bin .sub (.t 20) (.c (.int .i64 1))), []), (og 22 18 true (.iaddr 1 (.t 19) (.t 21)), []), (gl 23 18 true 22, []), (gm 24 18 true 0, []), (gm 25 18 true 3, []), (og 26 18 true (.iaddr 1 (.t 24) (.t 25)), []), (gl 27 18 true 26, []), (og 28 18 true (.bin .geq (.t 23) (.t 27)), []), (og 29 15 false (.pick (.t 18) (.t 28) (.c (.bool false))), []), (pt 30 15 29, [])]
def c84_7 : LC := .ops [oo 2 (.mov (.c (.bool false)))]
def c84_15 : LC := .ops [oo 31 (.bin .add (.t 6) (.c (.int .i64 1))), om 6 31]
def c84_22 : LC := .ops [om 32 0, on 33 32, oo 34 (.bin .leq (.t 33) (.c (.int .i64 50))), om 2 34]
def c84_26 : LC := .seq c84_0 (.seq (.seq c84_1 (.block 0 (.loop (.seq c84_2 (.seq (.cond (.t 7) .skip (.exit 0)) (.seq (.block 1 (.seq c84_5 (.seq c84_6 (.cond (.t 30) (.seq c84_7 .ret) .skip)))) c84_15)))))) (.seq c84_22 .ret))
def c84 : LF := .mk 35 c84_26 [.tmp 2]
theorem low84 : al Tryz.prog Tryz.f84 = some c84 := by kernel_rfl
def c85_0 : LC := .ops [oo 4 (.mov (.c (.bool false)))]
def c85_1 : LC := .ops [om 6 0, on 7 6, om 8 1, on 9 8, kb 10 .neq 7 9]
def c85_2 : LC := .ops [oo 4 (.mov (.c (.bool false)))]
def c85_8 : LC := .ops [om 11 0, on 12 11, oo 13 (.mov (.c (.int .i64 0)))]
def c85_9 : LC := .ops [kb 14 .lss 13 12]
def c85_12 : LC := .ops [om 15 13, om 5 15]
def c85_13 : LC := .opsX [(om 16 0, []), (om 17 5, []), (oo 18 (.iaddr 1 (.t 16) (.t 17)), []), (ol 19 18, []), (om 20 1, []), (om 21 5, []), (oo 22 (.iaddr 1 (.t 20) (.t 21)), []), (ol 23 22, []), (kb 24 .neq 19 23, [])]
def c85_14 : LC := .ops [oo 4 (.mov (.c (.bool false)))]
def c85_22 : LC := .ops [oo 25 (.bin .add (.t 13) (.c (.int .i64 1))), om 13 25]
def c85_29 : LC := .ops [oo 4 (.mov (.c (.bool true)))]
def c85_34 : LC := .seq c85_0 (.seq (.seq c85_1 (.cond (.t 10) (.seq c85_2 .ret) .skip)) (.seq (.seq c85_8 (.block 0 (.loop (.seq c85_9 (.seq (.cond (.t 14) .skip (.exit 0)) (.seq (.block 1 (.seq c85_12 (.seq c85_13 (.cond (.t 24) (.seq c85_14 .ret) .skip)))) c85_22)))))) (.seq c85_29 .ret)))
def c85 : LF := .mk 26 c85_34 [.tmp 4]
theorem low85 : al Tryz.prog Tryz.f85 = some c85 := by kernel_rfl
def c86_0 : LC := .ops [oo 1 (.box (.t 0)), oo 2 (.mov (.c (.bool false)))]
def c86_1 : LC := .ops [oa 3 4 1, ol 4 3, on 5 4, oo 6 (.bin .gtr (.t 5) (.c (.int .i64 80))), om 7 6, ga 8 7 false 5 1, gl 9 7 false 8, og 10 7 false (.len false (.t 9)), og 11 7 false (.bin .gtr (.t 10) (.c (.int .i64 40))), pt 12 7 11, om 13 12, ga 14 13 false 7 1, gl 15 13 false 14, og 16 13 false (.len false (.t 15)), og 17 13 false (.bin .gtr (.t 16) (.c (.int .i64 60))), pt 18 13 17, om 19 18, ga 20 19 false 8 1, gl 21 19 false 20, og 22 19 false (.len false (.t 21)), og 23 19 false (.bin .gtr (.t 22) (.c (.int .i64 30))), pt 24 19 23, om 2 24]
def c86_4 : LC := .seq c86_0 (.seq c86_1 .ret)
def c86 : LF := .mk 25 c86_4 [.tmp 2]
theorem low86 : al Tryz.prog Tryz.f86 = some c86 := by kernel_rfl
def c87_0 : LC := .ops [om 4 0, om 5 1, kc 6 120 [.t 4, .t 5, .c (.int .i64 (-9223372036854775808)), .c (.int .i64 9223372036854775807)]]
def c87 : LF := .mk 7 c87_0 []
theorem low87 : al Tryz.prog Tryz.f87 = some c87 := by kernel_rfl
def rc_0 : LC := .ops [om 12 1, kk 13 12, ol 14 13, on 15 14, oo 16 (.conv .u64 (.t 15)), oo 8 (.alloc [.int .u64 0]), .mk none none (.store 1 (.t 8) (.t 16))]
def rc_1 : LC := .ops [om 17 0, om 18 2, oo 19 (.conv .u64 (.t 18)), kc 20 95 [.t 17, .t 8, .t 19]]
def rc_2 : LC := .ops [om 21 0, kk 22 21, oa 23 1 22, ol 24 23, oo 25 (.eq .ptr false (.t 24) (.c .nilp))]
def rc_3 : LC := .ops [om 26 1, kk 27 26, ol 28 27, on 29 28, oo 30 (.mov (.c (.int .i64 0)))]
def rc_4 : LC := .ops [kb 31 .lss 30 29]
def rc_5 : LC := .skip
def rc_6 : LC := .cond (.t 31) rc_5 (.exit 0)
def rc_7 : LC := .ops [om 32 30, om 9 32]
def rc_8 (n b : Nat) (ld : Option Nat) (z : List D) : LC := LC.ops [LOp.mk (some 33) none (LK.mov (LO.t 1)), LOp.mk (some 34) none (LK.chk (LO.t 33)), LOp.mk (some 35) none (LK.load none (LO.t 34)), LOp.mk (some 36) none (LK.mov (LO.t 9)), LOp.mk (some 37) none (LK.iaddr n (LO.t 35) (LO.t 36)), LOp.mk (some 38) none (LK.load ld (LO.t 37)), LOp.mk (some 10) none (LK.alloc z), LOp.mk none none (LK.store n (LO.t 10) (LO.t 38))]
def rc_9 : LC := .ops [om 39 3, oo 40 (.call (.t 39) [.t 10])]
def rc_10 (n b : Nat) (ld : Option Nat) (z : List D) : LC := LC.seq (rc_8 n b ld z) rc_9
def rc_11 (n b : Nat) (ld : Option Nat) (z : List D) : LC := LC.seq rc_7 (rc_10 n b ld z)
def rc_12 (n b : Nat) (ld : Option Nat) (z : List D) : LC := LC.block 1 (rc_11 n b ld z)
def rc_13 : LC := .ops [oo 41 (.bin .add (.t 30) (.c (.int .i64 1))), om 30 41]
def rc_14 (n b : Nat) (ld : Option Nat) (z : List D) : LC := LC.seq (rc_12 n b ld z) rc_13
def rc_15 (n b : Nat) (ld : Option Nat) (z : List D) : LC := LC.seq rc_6 (rc_14 n b ld z)
def rc_16 (n b : Nat) (ld : Option Nat) (z : List D) : LC := LC.seq rc_4 (rc_15 n b ld z)
def rc_17 (n b : Nat) (ld : Option Nat) (z : List D) : LC := LC.loop (rc_16 n b ld z)
def rc_18 (n b : Nat) (ld : Option Nat) (z : List D) : LC := LC.block 0 (rc_17 n b ld z)
def rc_19 (n b : Nat) (ld : Option Nat) (z : List D) : LC := LC.seq rc_3 (rc_18 n b ld z)
def rc_20 : LC := .ret
def rc_21 (n b : Nat) (ld : Option Nat) (z : List D) : LC := LC.seq (rc_19 n b ld z) rc_20
def rc_22 : LC := .skip
def rc_23 (n b : Nat) (ld : Option Nat) (z : List D) : LC := LC.cond (LO.t 25) (rc_21 n b ld z) rc_22
def rc_24 (n b : Nat) (ld : Option Nat) (z : List D) : LC := LC.seq rc_2 (rc_23 n b ld z)
def rc_25 : LC := .ops [ol 42 8, oo 43 (.mov (.c (.int .u64 0)))]
def rc_26 : LC := .ops [kb 44 .lss 43 42]
def rc_27 : LC := .skip
def rc_28 : LC := .cond (.t 44) rc_27 (.exit 2)
def rc_29 (n b : Nat) (ld : Option Nat) (z : List D) : LC := LC.ops [LOp.mk (some 11) none (LK.alloc z)]
def rc_30 : LC := .ops [om 45 3, oo 46 (.call (.t 45) [.t 11])]
def rc_31 : LC := .ops [om 47 0, kk 48 47, oa 49 1 48, ol 50 49, kc 51 121 [.t 50], om 52 51, gm 53 52 false 0, og 54 52 false (.chk (.t 53)), ga 55 52 false 2 54, gl 56 52 false 55, pt 57 52 56]
def rc_32 : LC := .ret
def rc_33 : LC := .skip
def rc_34 : LC := .cond (.t 57) rc_32 rc_33
def rc_35 : LC := .seq rc_31 rc_34
def rc_36 (n b : Nat) (ld : Option Nat) (z : List D) : LC := LC.opsX [(LOp.mk (some 58) none (LK.mov (LO.t 1)), []), (LOp.mk (some 59) none (LK.mov (LO.t 1)), []), (LOp.mk (some 60) none (LK.chk (LO.t 59)), []), (LOp.mk (some 61) none (LK.load none (LO.t 60)), []), (LOp.mk (some 62) none (LK.load ld (LO.t 11)), []), (LOp.mk (some 63) none (LK.slit n [LO.t 62]), []), (LOp.mk (some 64) none (LK.app n b (LO.t 61) (LO.t 63)), []), (LOp.mk (some 65) none (LK.chk (LO.t 58)), []), (LOp.mk none none (LK.store 1 (LO.t 65) (LO.t 64)), [])]
def rc_37 (n b : Nat) (ld : Option Nat) (z : List D) : LC := LC.seq rc_35 (rc_36 n b ld z)
def rc_38 (n b : Nat) (ld : Option Nat) (z : List D) : LC := LC.seq rc_30 (rc_37 n b ld z)
def rc_39 (n b : Nat) (ld : Option Nat) (z : List D) : LC := LC.seq (rc_29 n b ld z) (rc_38 n b ld z)
def rc_40 (n b : Nat) (ld : Option Nat) (z : List D) : LC := LC.block 3 (rc_39 n b ld z)
def rc_41 : LC := .ops [oo 66 (.bin .add (.t 43) (.c (.int .u64 1))), om 43 66]
def rc_42 (n b : Nat) (ld : Option Nat) (z : List D) : LC := LC.seq (rc_40 n b ld z) rc_41
def rc_43 (n b : Nat) (ld : Option Nat) (z : List D) : LC := LC.seq rc_28 (rc_42 n b ld z)
def rc_44 (n b : Nat) (ld : Option Nat) (z : List D) : LC := LC.seq rc_26 (rc_43 n b ld z)
def rc_45 (n b : Nat) (ld : Option Nat) (z : List D) : LC := LC.loop (rc_44 n b ld z)
def rc_46 (n b : Nat) (ld : Option Nat) (z : List D) : LC := LC.block 2 (rc_45 n b ld z)
def rc_47 (n b : Nat) (ld : Option Nat) (z : List D) : LC := LC.seq rc_25 (rc_46 n b ld z)
def rc_48 (n b : Nat) (ld : Option Nat) (z : List D) : LC := LC.seq (rc_24 n b ld z) (rc_47 n b ld z)
def rc_49 (n b : Nat) (ld : Option Nat) (z : List D) : LC := LC.seq rc_1 (rc_48 n b ld z)
def rc_50 (n b : Nat) (ld : Option Nat) (z : List D) : LC := LC.seq rc_0 (rc_49 n b ld z)
def iN (n b : Nat) (ld : Option Nat) (z : List D) : LF := LF.mk 67 (rc_50 n b ld z) []
def c88 : LF := iN 9 136 (some 9) [.int .u32 0, .int .i64 0, .list (some true) true [], .list (some true) true [], .list (some true) true [], .int .i64 0, .int .i64 0, .int .u64 0, .list (some true) true []]
theorem low88 : al Tryz.prog Tryz.f88 = some c88 := by kernel_rfl
def c89_0 : LC := .ops [oo 2 (.box (.t 0))]
def c89_1 : LC := .opsX [(ol 4 2, []), (om 5 1, []), (kk 6 5, []), (oa 7 0 6, []), (kx 8 94 [.t 4, .t 7], [])]
def c89_2 : LC := .opsX [(ol 9 2, []), (om 10 1, []), (kk 11 10, []), (oa 12 1 11, []), (kx 13 122 [.t 9, .t 12], [])]
def c89_3 : LC := .opsX [(ol 14 2, []), (om 15 1, []), (kk 16 15, []), (oa 17 7 16, []), (kx 18 95 [.t 14, .t 17, .c (.int .u64 18446744073709551615)], [])]
def c89_4 : LC := .opsX [(ol 19 2, []), (om 20 1, []), (kk 21 20, []), (oa 22 8 21, []), (oo 23 (.mkfn 124 [.t 2]), []), (kx 24 123 [.t 19, .t 22, .c (.int .i64 64), .t 23], [])]
def c89_8 : LC := .seq c89_0 (.seq c89_1 (.seq c89_2 (.seq c89_3 c89_4)))
def c89 : LF := .mk 25 c89_8 []
theorem low89 : al Tryz.prog Tryz.f89 = some c89 := by kernel_rfl
def c90 : LF := iN 16 216 (some 16) [.int .u32 0, .int .u32 0, .int .i64 0, .int .i64 0, .int .i64 0, .int .i64 0, .list (some true) true [], .list (some true) true [], .int .i64 0, .list (some true) true [], .list (some true) true [], .list (some true) true [], .list (some true) true [], .int .i64 0, .int .i64 0, .int .i64 0]
theorem low90 : al Tryz.prog Tryz.f90 = some c90 := by kernel_rfl
def c91_0 : LC := .ops [oo 2 (.box (.t 0))]
def c91_1 : LC := .opsX [(ol 4 2, []), (om 5 1, []), (kk 6 5, []), (oa 7 0 6, []), (kx 8 94 [.t 4, .t 7], [])]
def c91_2 : LC := .opsX [(ol 9 2, []), (om 10 1, []), (kk 11 10, []), (oa 12 1 11, []), (kx 13 94 [.t 9, .t 12], [])]
def c91_3 : LC := .opsX [(ol 14 2, []), (om 15 1, []), (kk 16 15, []), (oa 17 2 16, []), (kx 18 126 [.t 14, .t 17], [])]
def c91_4 : LC := .opsX [(ol 19 2, []), (om 20 1, []), (kk 21 20, []), (oa 22 11 21, []), (oo 23 (.mkfn 128 [.t 2]), []), (kx 24 127 [.t 19, .t 22, .c (.int .i64 40), .t 23], [])]
def c91_5 : LC := .opsX [(ol 25 2, []), (om 26 1, []), (kk 27 26, []), (oa 28 12 27, []), (oo 29 (.mkfn 130 [.t 2]), []), (kx 30 129 [.t 25, .t 28, .c (.int .i64 4096), .t 29], [])]
def c91_6 : LC := .opsX [(ol 31 2, []), (om 32 1, []), (kk 33 32, []), (oa 34 13 33, []), (kx 35 87 [.t 31, .t 34], [])]
def c91_7 : LC := .opsX [(ol 36 2, []), (om 37 1, []), (kk 38 37, []), (oa 39 14 38, []), (kx 40 131 [.t 36, .t 39, .c (.int .u64 4)], [])]
def c91_8 : LC := .opsX [(ol 41 2, []), (om 42 1, []), (kk 43 42, []), (oa 44 15 43, []), (kx 45 131 [.t 41, .t 44, .c (.int .u64 40)], [])]
def c91_16 : LC := .seq c91_0 (.seq c91_1 (.seq c91_2 (.seq c91_3 (.seq c91_4 (.seq c91_5 (.seq c91_6 (.seq c91_7 c91_8)))))))
def c91 : LF := .mk 46 c91_16 []
theorem low91 : al Tryz.prog Tryz.f91 = some c91 := by kernel_rfl
def c92 : LF := iN 3 24 (some 3) [.int .u32 0, .int .u64 0, .int .u64 0]
theorem low92 : al Tryz.prog Tryz.f92 = some c92 := by kernel_rfl
def c93_0 : LC := .opsX [(ol 3 1, []), (om 4 0, []), (kk 5 4, []), (oa 6 0 5, []), (kx 7 94 [.t 3, .t 6], [])]
def c93_1 : LC := .opsX [(ol 8 1, []), (om 9 0, []), (kk 10 9, []), (oa 11 1 10, []), (kx 12 95 [.t 8, .t 11, .c (.int .u64 18446744073709551615)], [])]
def c93_2 : LC := .opsX [(ol 13 1, []), (om 14 0, []), (kk 15 14, []), (oa 16 2 15, []), (kx 17 95 [.t 13, .t 16, .c (.int .u64 18446744073709551615)], [])]
def c93_4 : LC := .seq c93_0 (.seq c93_1 c93_2)
def c93 : LF := .mk 18 c93_4 []
theorem low93 : al Tryz.prog Tryz.f93 = some c93 := by kernel_rfl
def c94_0 : LC := .ops [om 4 0, om 5 1, kc 6 132 [.t 4, .t 5, .c (.int .u64 4294967295)]]
def c94 : LF := .mk 7 c94_0 []
theorem low94 : al Tryz.prog Tryz.f94 = some c94 := by kernel_rfl
def c95_0 : LC := .ops [om 6 0, kk 7 6, oa 8 1 7, ol 9 8, oo 10 (.eq .ptr true (.t 9) (.c .nilp))]
def c95_1 : LC := .ops [om 11 1, om 12 0, kk 13 12, oa 14 1 13, ol 15 14, om 16 2, kc 17 133 [.t 15, .t 16], kk 18 11, .mk none none (.store 1 (.t 18) (.t 17))]
def c95_7 : LC := .ops [om 19 0, om 20 0, kk 21 20, oa 22 2 21, ol 23 22, om 24 23, gm 25 24 false 1, og 26 24 false (.chk (.t 25)), gl 27 24 false 26, gm 28 24 false 2, og 29 24 false (.bin .gtr (.t 27) (.t 28)), pt 30 24 29, kk 31 19, oa 32 2 31, .mk none none (.store 1 (.t 32) (.t 30))]
def c95_8 : LC := .opsX [(om 33 0, []), (kk 34 33, []), (oa 35 0 34, []), (ol 36 35, []), (om 37 1, []), (kk 38 37, []), (ol 39 38, []), (kx 40 134 [.t 36, .t 39], [])]
def c95_10 : LC := .seq (.seq c95_0 (.cond (.t 10) (.seq c95_1 .ret) .skip)) (.seq c95_7 c95_8)
def c95 : LF := .mk 41 c95_10 []
theorem low95 : al Tryz.prog Tryz.f95 = some c95 := by kernel_rfl
def c96_0 : LC := .ops [oo 2 (.mov (.c (.list (some true) true [])))]
def c96_1 : LC := .ops [om 3 0, oo 4 (.eq .ptr false (.t 3) (.c .nilp))]
def c96_2 : LC := .ops [oo 2 (.mov (.c (.list (some true) true [])))]
def c96_8 : LC := .ops [om 5 0, kk 6 5, oa 7 0 6, ol 8 7, kc 9 106 [.t 8], om 2 9]
def c96_12 : LC := .seq c96_0 (.seq (.seq c96_1 (.cond (.t 4) (.seq c96_2 .ret) .skip)) (.seq c96_8 .ret))
def c96 : LF := .mk 10 c96_12 [.tmp 2]
theorem low96 : al Tryz.prog Tryz.f96 = some c96 := by kernel_rfl
def c97_0 : LC := .ops [oo 4 (.mov (.c (.bool false)))]
def c97_1 : LC := .ops [om 6 0, on 7 6, om 8 1, on 9 8, kb 10 .neq 7 9]
def c97_2 : LC := .ops [oo 4 (.mov (.c (.bool false)))]
def c97_8 : LC := .ops [om 11 0, on 12 11, oo 13 (.mov (.c (.int .i64 0)))]
def c97_9 : LC := .ops [kb 14 .lss 13 12]
def c97_12 : LC := .ops [om 15 13, om 5 15]
def c97_13 : LC := .opsX [(om 16 0, []), (om 17 5, []), (oo 18 (.iaddr 3 (.t 16) (.t 17)), []), (oo 19 (.load (some 3) (.t 18)), []), (om 20 1, []), (om 21 5, []), (oo 22 (.iaddr 3 (.t 20) (.t 21)), []), (oo 23 (.load (some 3) (.t 22)), []), (oo 24 (.eq (.row [.int, .int, .int]) true (.t 19) (.t 23)), [])]
def c97_14 : LC := .ops [oo 4 (.mov (.c (.bool false)))]
def c97_22 : LC := .ops [oo 25 (.bin .add (.t 13) (.c (.int .i64 1))), om 13 25]
def c97_29 : LC := .ops [oo 4 (.mov (.c (.bool true)))]
def c97_34 : LC := .seq c97_0 (.seq (.seq c97_1 (.cond (.t 10) (.seq c97_2 .ret) .skip)) (.seq (.seq c97_8 (.block 0 (.loop (.seq c97_9 (.seq (.cond (.t 14) .skip (.exit 0)) (.seq (.block 1 (.seq c97_12 (.seq c97_13 (.cond (.t 24) (.seq c97_14 .ret) .skip)))) c97_22)))))) (.seq c97_29 .ret)))
def c97 : LF := .mk 26 c97_34 [.tmp 4]
theorem low97 : al Tryz.prog Tryz.f97 = some c97 := by kernel_rfl
def c98_0 : LC := .ops [oo 6 (.mov (.c (.bool false)))]
def c98_1 : LC := .ops [om 10 0, on 11 10, om 12 1, on 13 12, kb 14 .neq 11 13]
def c98_2 : LC := .ops [oo 6 (.mov (.c (.bool false)))]
def c98_8 : LC := .ops [om 15 0, on 16 15, oo 17 (.mov (.c (.int .i64 0)))]
def c98_9 : LC := .ops [kb 18 .lss 17 16]
def c98_12 : LC := .ops [om 19 17, oo 20 (.iaddr 16 (.t 15) (.t 17)), oo 21 (.load (some 16) (.t 20)), oo 8 (.alloc [.int .u32 0, .int .u32 0, .int .i64 0, .int .i64 0, .int .i64 0, .int .i64 0, .list (some true) true [], .list (some true) true [], .int .i64 0, .list (some true) true [], .list (some true) true [], .list (some true) true [], .list (some true) true [], .int .i64 0, .int .i64 0, .int .i64 0]), om 7 19, .mk none none (.store 16 (.t 8) (.t 21))]
def c98_13 : LC := .ops [om 22 1, om 23 7, oo 24 (.iaddr 16 (.t 22) (.t 23)), oo 25 (.load (some 16) (.t 24)), oo 9 (.alloc [.int .u32 0, .int .u32 0, .int .i64 0, .int .i64 0, .int .i64 0, .int .i64 0, .list (some true) true [], .list (some true) true [], .int .i64 0, .list (some true) true [], .list (some true) true [], .list (some true) true [], .list (some true) true [], .int .i64 0, .int .i64 0, .int .i64 0]), .mk none none (.store 16 (.t 9) (.t 25))]
def c98_14 : LC := .ops [om 26 2, oo 27 (.load (some 16) (.t 8)), oo 28 (.load (some 16) (.t 9)), oo 29 (.call (.t 26) [.t 27, .t 28]), oo 30 (.un .not (.t 29))]
def c98_15 : LC := .ops [oo 6 (.mov (.c (.bool false)))]
def c98_24 : LC := .ops [oo 31 (.bin .add (.t 17) (.c (.int .i64 1))), om 17 31]
def c98_31 : LC := .ops [oo 6 (.mov (.c (.bool true)))]
def c98_36 : LC := .seq c98_0 (.seq (.seq c98_1 (.cond (.t 14) (.seq c98_2 .ret) .skip)) (.seq (.seq c98_8 (.block 0 (.loop (.seq c98_9 (.seq (.cond (.t 18) .skip (.exit 0)) (.seq (.block 1 (.seq c98_12 (.seq c98_13 (.seq c98_14 (.cond (.t 30) (.seq c98_15 .ret) .skip))))) c98_24)))))) (.seq c98_31 .ret)))
def c98 : LF := .mk 32 c98_36 [.tmp 6]
theorem low98 : al Tryz.prog Tryz.f98 = some c98 := by kernel_rfl
def c99_0 : LC := .ops [oo 2 (.box (.t 0)), oo 3 (.box (.t 1)), oo 4 (.mov (.c (.bool false)))]
def c99_1 : LC := .ops [oa 5 0 2, ol 6 5, oa 7 0 3, ol 8 7, kb 9 .eql 6 8, om 10 9, ga 11 10 true 1 2, gl 12 10 true 11, ga 13 10 true 1 3, gl 14 10 true 13, og 15 10 true (.bin .eql (.t 12) (.t 14)), pf 16 10 15, om 17 16, ga 18 17 true 2 2, og 19 17 true (.load (some 9) (.t 18)), ga 20 17 true 2 3, og 21 17 true (.load (some 9) (.t 20)), gk 22 17 true 135 [.t 19, .t 21], pf 23 17 22, om 24 23, ga 25 24 true 11 2, gl 26 24 true 25, ga 27 24 true 11 3, gl 28 24 true 27, gk 29 24 true 136 [.t 26, .t 28], pf 30 24 29, om 31 30, ga 32 31 true 12 2, gl 33 31 true 32, ga 34 31 true 12 3, gl 35 31 true 34, gk 36 31 true 137 [.t 33, .t 35], pf 37 31 36, om 38 37, ga 39 38 true 13 2, gl 40 38 true 39, ga 41 38 true 13 3, gl 42 38 true 41, og 43 38 true (.bin .eql (.t 40) (.t 42)), pf 44 38 43, om 45 44, ga 46 45 true 14 2, gl 47 45 true 46, ga 48 45 true 14 3, gl 49 45 true 48, og 50 45 true (.bin .eql (.t 47) (.t 49)), pf 51 45 50, om 52 51, ga 53 52 true 15 2, gl 54 52 true 53, ga 55 52 true 15 3, gl 56 52 true 55, og 57 52 true (.bin .eql (.t 54) (.t 56)), pf 58 52 57, om 4 58]
def c99_4 : LC := .seq c99_0 (.seq c99_1 .ret)
def c99 : LF := .mk 59 c99_4 [.tmp 4]
theorem low99 : al Tryz.prog Tryz.f99 = some c99 := by kernel_rfl
def c100_0 : LC := .ops [oo 6 (.mov (.c (.bool false)))]
def c100_1 : LC := .ops [om 10 0, on 11 10, om 12 1, on 13 12, kb 14 .neq 11 13]
def c100_2 : LC := .ops [oo 6 (.mov (.c (.bool false)))]
def c100_8 : LC := .ops [om 15 0, on 16 15, oo 17 (.mov (.c (.int .i64 0)))]
def c100_9 : LC := .ops [kb 18 .lss 17 16]
def c100_12 : LC := .ops [om 19 17, oo 20 (.iaddr 9 (.t 15) (.t 17)), oo 21 (.load (some 9) (.t 20)), oo 8 (.alloc [.int .u32 0, .int .i64 0, .list (some true) true [], .list (some true) true [], .list (some true) true [], .int .i64 0, .int .i64 0, .int .u64 0, .list (some true) true []]), om 7 19, .mk none none (.store 9 (.t 8) (.t 21))]
def c100_13 : LC := .ops [om 22 1, om 23 7, oo 24 (.iaddr 9 (.t 22) (.t 23)), oo 25 (.load (some 9) (.t 24)), oo 9 (.alloc [.int .u32 0, .int .i64 0, .list (some true) true [], .list (some true) true [], .list (some true) true [], .int .i64 0, .int .i64 0, .int .u64 0, .list (some true) true []]), .mk none none (.store 9 (.t 9) (.t 25))]
def c100_14 : LC := .ops [om 26 2, oo 27 (.load (some 9) (.t 8)), oo 28 (.load (some 9) (.t 9)), oo 29 (.call (.t 26) [.t 27, .t 28]), oo 30 (.un .not (.t 29))]
def c100_15 : LC := .ops [oo 6 (.mov (.c (.bool false)))]
def c100_24 : LC := .ops [oo 31 (.bin .add (.t 17) (.c (.int .i64 1))), om 17 31]
def c100_31 : LC := .ops [oo 6 (.mov (.c (.bool true)))]
def c100_36 : LC := .seq c100_0 (.seq (.seq c100_1 (.cond (.t 14) (.seq c100_2 .ret) .skip)) (.seq (.seq c100_8 (.block 0 (.loop (.seq c100_9 (.seq (.cond (.t 18) .skip (.exit 0)) (.seq (.block 1 (.seq c100_12 (.seq c100_13 (.seq c100_14 (.cond (.t 30) (.seq c100_15 .ret) .skip))))) c100_24)))))) (.seq c100_31 .ret)))
def c100 : LF := .mk 32 c100_36 [.tmp 6]
theorem low100 : al Tryz.prog Tryz.f100 = some c100 := by kernel_rfl
def c101_0 : LC := .ops [oo 2 (.box (.t 0)), oo 3 (.box (.t 1)), oo 4 (.mov (.c (.bool false)))]
def c101_1 : LC := .ops [oa 5 0 2, ol 6 5, oa 7 0 3, ol 8 7, kb 9 .eql 6 8, om 10 9, ga 11 10 true 7 2, gl 12 10 true 11, ga 13 10 true 7 3, gl 14 10 true 13, og 15 10 true (.bin .eql (.t 12) (.t 14)), pf 16 10 15, om 17 16, ga 18 17 true 1 2, og 19 17 true (.load (some 6) (.t 18)), ga 20 17 true 1 3, og 21 17 true (.load (some 6) (.t 20)), gk 22 17 true 102 [.t 19, .t 21], pf 23 17 22, om 24 23, ga 25 24 true 8 2, gl 26 24 true 25, ga 27 24 true 8 3, gl 28 24 true 27, og 29 24 true (.call (.c (.fn 103 [])) [.t 26, .t 28, .c (.fn 104 [])]), pf 30 24 29, om 4 30]
def c101_4 : LC := .seq c101_0 (.seq c101_1 .ret)
def c101 : LF := .mk 31 c101_4 [.tmp 4]
theorem low101 : al Tryz.prog Tryz.f101 = some c101 := by kernel_rfl
def c102_0 : LC := .ops [oo 2 (.box (.t 0)), oo 3 (.box (.t 1)), oo 4 (.mov (.c (.bool false)))]
def c102_1 : LC := .ops [oa 5 0 2, oa 6 0 5, ol 7 6, oa 8 0 3, oa 9 0 8, ol 10 9, kb 11 .eql 7 10, om 12 11, ga 13 12 true 0 2, ga 14 12 true 1 13, gl 15 12 true 14, ga 16 12 true 0 3, ga 17 12 true 1 16, gl 18 12 true 17, gk 19 12 true 138 [.t 15, .t 18], pf 20 12 19, om 21 20, ga 22 21 true 2 2, ga 23 21 true 0 22, gl 24 21 true 23, ga 25 21 true 2 3, ga 26 21 true 0 25, gl 27 21 true 26, gk 28 21 true 139 [.t 24, .t 27], pf 29 21 28, om 30 29, ga 31 30 true 2 2, ga 32 30 true 1 31, gl 33 30 true 32, ga 34 30 true 2 3, ga 35 30 true 1 34, gl 36 30 true 35, gk 37 30 true 112 [.t 33, .t 36], pf 38 30 37, om 39 38, ga 40 39 true 4 2, gl 41 39 true 40, ga 42 39 true 4 3, gl 43 39 true 42, og 44 39 true (.bin .eql (.t 41) (.t 43)), pf 45 39 44, om 46 45, ga 47 46 true 5 2, gl 48 46 true 47, ga 49 46 true 5 3, gl 50 46 true 49, og 51 46 true (.bin .eql (.t 48) (.t 50)), pf 52 46 51, om 4 52]
def c102_4 : LC := .seq c102_0 (.seq c102_1 .ret)
def c102 : LF := .mk 53 c102_4 [.tmp 4]
theorem low102 : al Tryz.prog Tryz.f102 = some c102 := by kernel_rfl
def c103_0 : LC := .ops [oo 6 (.mov (.c (.bool false)))]
def c103_1 : LC := .ops [om 10 0, on 11 10, om 12 1, on 13 12, kb 14 .neq 11 13]
def c103_2 : LC := .ops [oo 6 (.mov (.c (.bool false)))]
def c103_8 : LC := .ops [om 15 0, on 16 15, oo 17 (.mov (.c (.int .i64 0)))]
def c103_9 : LC := .ops [kb 18 .lss 17 16]
def c103_12 : LC := .ops [om 19 17, oo 20 (.iaddr 17 (.t 15) (.t 17)), oo 21 (.load (some 17) (.t 20)), oo 8 (.alloc [.int .u32 0, .int .i64 0, .int .i64 0, .bool false, .bool false, .int .i64 0, .int .i64 0, .int .i64 0, .int .i64 0, .list (some true) true [], .list (some true) true [], .list (some true) true [], .list (some true) true [], .int .i64 0, .list (some true) true [], .list (some true) true [], .list (some true) true []]), om 7 19, .mk none none (.store 17 (.t 8) (.t 21))]
def c103_13 : LC := .ops [om 22 1, om 23 7, oo 24 (.iaddr 17 (.t 22) (.t 23)), oo 25 (.load (some 17) (.t 24)), oo 9 (.alloc [.int .u32 0, .int .i64 0, .int .i64 0, .bool false, .bool false, .int .i64 0, .int .i64 0, .int .i64 0, .int .i64 0, .list (some true) true [], .list (some true) true [], .list (some true) true [], .list (some true) true [], .int .i64 0, .list (some true) true [], .list (some true) true [], .list (some true) true []]), .mk none none (.store 17 (.t 9) (.t 25))]
def c103_14 : LC := .ops [om 26 2, oo 27 (.load (some 17) (.t 8)), oo 28 (.load (some 17) (.t 9)), oo 29 (.call (.t 26) [.t 27, .t 28]), oo 30 (.un .not (.t 29))]
def c103_15 : LC := .ops [oo 6 (.mov (.c (.bool false)))]
def c103_24 : LC := .ops [oo 31 (.bin .add (.t 17) (.c (.int .i64 1))), om 17 31]
def c103_31 : LC := .ops [oo 6 (.mov (.c (.bool true)))]
def c103_36 : LC := .seq c103_0 (.seq (.seq c103_1 (.cond (.t 14) (.seq c103_2 .ret) .skip)) (.seq (.seq c103_8 (.block 0 (.loop (.seq c103_9 (.seq (.cond (.t 18) .skip (.exit 0)) (.seq (.block 1 (.seq c103_12 (.seq c103_13 (.seq c103_14 (.cond (.t 30) (.seq c103_15 .ret) .skip))))) c103_24)))))) (.seq c103_31 .ret)))
def c103 : LF := .mk 32 c103_36 [.tmp 6]
theorem low103 : al Tryz.prog Tryz.f103 = some c103 := by kernel_rfl
def c104_0 : LC := .ops [oo 2 (.box (.t 0)), oo 3 (.box (.t 1)), oo 4 (.mov (.c (.bool false)))]
def c104_1 : LC := .ops [oa 5 0 2, ol 6 5, oa 7 0 3, ol 8 7, kb 9 .eql 6 8, om 10 9, ga 11 10 true 1 2, og 12 10 true (.load (some 16) (.t 11)), ga 13 10 true 1 3, og 14 10 true (.load (some 16) (.t 13)), gk 15 10 true 105 [.t 12, .t 14], pf 16 10 15, om 4 16]
def c104_4 : LC := .seq c104_0 (.seq c104_1 .ret)
def c104 : LF := .mk 17 c104_4 [.tmp 4]
theorem low104 : al Tryz.prog Tryz.f104 = some c104 := by kernel_rfl
def c105_0 : LC := .ops [oo 2 (.box (.t 0)), oo 3 (.box (.t 1)), oo 4 (.mov (.c (.bool false)))]
def c105_1 : LC := .ops [oa 5 0 2, ol 6 5, oa 7 0 3, ol 8 7, kb 9 .eql 6 8, om 10 9, ga 11 10 true 1 2, gl 12 10 true 11, ga 13 10 true 1 3, gl 14 10 true 13, og 15 10 true (.bin .eql (.t 12) (.t 14)), pf 16 10 15, om 17 16, ga 18 17 true 3 2, gl 19 17 true 18, ga 20 17 true 3 3, gl 21 17 true 20, og 22 17 true (.eq .bool false (.t 19) (.t 21)), pf 23 17 22, om 24 23, ga 25 24 true 2 2, gl 26 24 true 25, ga 27 24 true 2 3, gl 28 24 true 27, og 29 24 true (.eq .bool false (.t 26) (.t 28)), pf 30 24 29, om 31 30, ga 32 31 true 4 2, og 33 31 true (.load (some 9) (.t 32)), ga 34 31 true 4 3, og 35 31 true (.load (some 9) (.t 34)), gk 36 31 true 76 [.t 33, .t 35], pf 37 31 36, om 38 37, ga 39 38 true 13 2, gl 40 38 true 39, ga 41 38 true 13 3, gl 42 38 true 41, gk 43 38 true 136 [.t 40, .t 42], pf 44 38 43, om 45 44, ga 46 45 true 14 2, gl 47 45 true 46, ga 48 45 true 14 3, gl 49 45 true 48, gk 50 45 true 136 [.t 47, .t 49], pf 51 45 50, om 52 51, ga 53 52 true 15 2, gl 54 52 true 53, ga 55 52 true 15 3, gl 56 52 true 55, gk 57 52 true 140 [.t 54, .t 56], pf 58 52 57, om 4 58]
def c105_4 : LC := .seq c105_0 (.seq c105_1 .ret)
def c105 : LF := .mk 59 c105_4 [.tmp 4]
theorem low105 : al Tryz.prog Tryz.f105 = some c105 := by kernel_rfl
def c106_0 : LC := .ops [oo 2 (.mov (.c (.list (some true) true [])))]
def c106_1 : LC := .ops [om 3 0, oo 4 (.eq .slice false (.t 3) (.c (.list (some true) true [])))]
def c106_2 : LC := .ops [oo 2 (.mov (.c (.list (some true) true [])))]
def c106_8 : LC := .ops [oo 5 (.slit 1 []), om 6 0, oo 7 (.app 1 1 (.t 5) (.t 6)), om 2 7]
def c106_12 : LC := .seq c106_0 (.seq (.seq c106_1 (.cond (.t 4) (.seq c106_2 .ret) .skip)) (.seq c106_8 .ret))
def c106 : LF := .mk 8 c106_12 [.tmp 2]
theorem low106 : al Tryz.prog Tryz.f106 = some c106 := by kernel_rfl
def c107_0 : LC := .ops [oo 2 (.mov (.c (.bool false)))]
def c107_1 : LC := .ops [om 3 0, kc 4 121 [.t 3], oo 5 (.un .not (.t 4)), om 6 5, gm 7 6 true 0, og 8 6 true (.chk (.t 7)), ga 9 6 true 0 8, gl 10 6 true 9, og 11 6 true (.len false (.t 10)), og 12 6 true (.bin .eql (.t 11) (.c (.int .i64 0))), pf 13 6 12, om 2 13]
def c107_4 : LC := .seq c107_0 (.seq c107_1 .ret)
def c107 : LF := .mk 14 c107_4 [.tmp 2]
theorem low107 : al Tryz.prog Tryz.f107 = some c107 := by kernel_rfl
def c108_0 : LC := .ops [oo 2 (.mov (.c (.bool false)))]
def c108_1 : LC := .ops [om 3 0, om 4 0, kb 5 .neq 3 4, om 2 5]
def c108_4 : LC := .seq c108_0 (.seq c108_1 .ret)
def c108 : LF := .mk 6 c108_4 [.tmp 2]
theorem low108 : al Tryz.prog Tryz.f108 = some c108 := by kernel_rfl
def c111_0 : LC := .ops [oo 4 (.mov (.c (.int .i64 0)))]
def c111_1 : LC := .ops [om 6 0, on 7 6, oo 8 (.mov (.c (.int .i64 0)))]
def c111_2 : LC := .ops [kb 9 .lss 8 7]
def c111_5 : LC := .ops [om 10 8, om 5 10]
def c111_6 : LC := .ops [om 11 1, om 12 0, om 13 5, oo 14 (.iaddr 3 (.t 12) (.t 13)), oo 15 (.load (some 3) (.t 14)), oo 16 (.call (.t 11) [.t 15])]
def c111_7 : LC := .ops [om 17 5, om 4 17]
def c111_15 : LC := .ops [oo 18 (.bin .add (.t 8) (.c (.int .i64 1))), om 8 18]
def c111_22 : LC := .ops [oo 4 (.mov (.c (.int .i64 (-1))))]
def c111_26 : LC := .seq c111_0 (.seq (.seq c111_1 (.block 0 (.loop (.seq c111_2 (.seq (.cond (.t 9) .skip (.exit 0)) (.seq (.block 1 (.seq c111_5 (.seq c111_6 (.cond (.t 16) (.seq c111_7 .ret) .skip)))) c111_15)))))) (.seq c111_22 .ret))
def c111 : LF := .mk 19 c111_26 [.tmp 4]
theorem low111 : al Tryz.prog Tryz.f111 = some c111 := by kernel_rfl
def c112_0 : LC := .ops [oo 4 (.mov (.c (.bool false)))]
def c112_1 : LC := .ops [om 6 0, on 7 6, om 8 1, on 9 8, kb 10 .neq 7 9]
def c112_2 : LC := .ops [oo 4 (.mov (.c (.bool false)))]
def c112_8 : LC := .ops [om 11 0, on 12 11, oo 13 (.mov (.c (.int .i64 0)))]
def c112_9 : LC := .ops [kb 14 .lss 13 12]
def c112_12 : LC := .ops [om 15 13, om 5 15]
def c112_13 : LC := .opsX [(om 16 0, []), (om 17 5, []), (oo 18 (.iaddr 1 (.t 16) (.t 17)), []), (ol 19 18, []), (om 20 1, []), (om 21 5, []), (oo 22 (.iaddr 1 (.t 20) (.t 21)), []), (ol 23 22, []), (kb 24 .neq 19 23, [])]
def c112_14 : LC := .ops [oo 4 (.mov (.c (.bool false)))]
def c112_22 : LC := .ops [oo 25 (.bin .add (.t 13) (.c (.int .i64 1))), om 13 25]
def c112_29 : LC := .ops [oo 4 (.mov (.c (.bool true)))]
def c112_34 : LC := .seq c112_0 (.seq (.seq c112_1 (.cond (.t 10) (.seq c112_2 .ret) .skip)) (.seq (.seq c112_8 (.block 0 (.loop (.seq c112_9 (.seq (.cond (.t 14) .skip (.exit 0)) (.seq (.block 1 (.seq c112_12 (.seq c112_13 (.cond (.t 24) (.seq c112_14 .ret) .skip)))) c112_22)))))) (.seq c112_29 .ret)))
def c112 : LF := .mk 26 c112_34 [.tmp 4]
theorem low112 : al Tryz.prog Tryz.f112 = some c112 := by kernel_rfl
def c113_0 : LC := .ops [oo 4 (.mov (.c (.bool false)))]
def c113_1 : LC := .ops [om 6 0, on 7 6, om 8 1, on 9 8, kb 10 .neq 7 9]
def c113_2 : LC := .ops [oo 4 (.mov (.c (.bool false)))]
def c113_8 : LC := .ops [om 11 0, on 12 11, oo 13 (.mov (.c (.int .i64 0)))]
def c113_9 : LC := .ops [kb 14 .lss 13 12]
def c113_12 : LC := .ops [om 15 13, om 5 15]
def c113_13 : LC := .opsX [(om 16 0, []), (om 17 5, []), (oo 18 (.iaddr 2 (.t 16) (.t 17)), []), (oo 19 (.load (some 2) (.t 18)), []), (om 20 1, []), (om 21 5, []), (oo 22 (.iaddr 2 (.t 20) (.t 21)), []), (oo 23 (.load (some 2) (.t 22)), []), (oo 24 (.eq (.row [.int, .int]) true (.t 19) (.t 23)), [])]
def c113_14 : LC := .ops [oo 4 (.mov (.c (.bool false)))]
def c113_22 : LC := .ops [oo 25 (.bin .add (.t 13) (.c (.int .i64 1))), om 13 25]
def c113_29 : LC := .ops [oo 4 (.mov (.c (.bool true)))]
def c113_34 : LC := .seq c113_0 (.seq (.seq c113_1 (.cond (.t 10) (.seq c113_2 .ret) .skip)) (.seq (.seq c113_8 (.block 0 (.loop (.seq c113_9 (.seq (.cond (.t 14) .skip (.exit 0)) (.seq (.block 1 (.seq c113_12 (.seq c113_13 (.cond (.t 24) (.seq c113_14 .ret) .skip)))) c113_22)))))) (.seq c113_29 .ret)))
def c113 : LF := .mk 26 c113_34 [.tmp 4]
theorem low113 : al Tryz.prog Tryz.f113 = some c113 := by kernel_rfl
def c114_0 : LC := .ops [oo 1 (.box (.t 0)), oo 2 (.mov (.c (.bool false)))]
def c114_1 : LC := .ops [oa 3 2 1, ol 4 3, oo 5 (.bin .lss (.t 4) (.c (.int .i64 0))), om 6 5, ga 7 6 false 2 1, gl 8 6 false 7, og 9 6 false (.bin .gtr (.t 8) (.c (.int .i64 5000))), pt 10 6 9]
def c114_2 : LC := .ops [oo 2 (.mov (.c (.bool false)))]
def c114_8 : LC := .ops [oa 11 3 1, ol 12 11, oo 13 (.bin .eql (.t 12) (.c (.int .i64 (-1)))), om 14 13, ga 15 14 false 3 1, gl 16 14 false 15, og 17 14 false (.bin .geq (.t 16) (.c (.int .i64 0))), gm 18 14 false 17, ga 19 18 true 3 1, gl 20 18 true 19, og 21 18 true (.bin .lss (.t 20) (.c (.int .i64 158310720))), og 22 14 false (.pick (.t 18) (.t 21) (.c (.bool false))), gm 23 14 false 22, ga 24 23 true 2 1, gl 25 23 true 24, og 26 23 true (.bin .eql (.t 25) (.c (.int .i64 0))), og 27 14 false (.pick (.t 23) (.t 26) (.c (.bool false))), pt 28 14 27, om 2 28]
def c114_12 : LC := .seq c114_0 (.seq (.seq c114_1 (.cond (.t 10) (.seq c114_2 .ret) .skip)) (.seq c114_8 .ret))
def c114 : LF := .mk 29 c114_12 [.tmp 2]
theorem low114 : al Tryz.prog Tryz.f114 = some c114 := by kernel_rfl
def c115_0 : LC := .ops [oo 6 (.mov (.c (.bool false)))]
def c115_1 : LC := .ops [om 9 0, on 10 9, oo 11 (.mov (.c (.int .i64 0)))]
def c115_2 : LC := .ops [kb 12 .lss 11 10]
def c115_5 : LC := .ops [oo 13 (.iaddr 1 (.t 9) (.t 11)), ol 14 13, om 8 14]
def c115_6 : LC := .ops [om 15 8, oo 16 (.bin .eql (.t 15) (.c (.int .i64 0))), om 17 16, gm 18 17 false 8, gm 19 17 false 1, og 20 17 false (.bin .gtr (.t 18) (.t 19)), pt 21 17 20, om 22 21, gm 23 22 false 8, gm 24 22 false 1, og 25 22 false (.un .neg (.t 24)), og 26 22 false (.bin .lss (.t 23) (.t 25)), pt 27 22 26, om 28 27, gm 29 28 false 8, og 30 28 false (.bin .lss (.t 29) (.c (.int .i64 0))), gm 31 28 false 30, gm 32 31 true 2, og 33 31 true (.un .not (.t 32)), og 34 28 false (.pick (.t 31) (.t 33) (.c (.bool false))), pt 35 28 34]
def c115_7 : LC := .ops [oo 6 (.mov (.c (.bool false)))]
def c115_15 : LC := .ops [oo 36 (.bin .add (.t 11) (.c (.int .i64 1))), om 11 36]
def c115_22 : LC := .ops [om 37 0, oo 38 (.call (.c (.fn 142 [])) [.t 37, .c (.fn 143 [])]), om 6 38]
def c115_26 : LC := .seq c115_0 (.seq (.seq c115_1 (.block 0 (.loop (.seq c115_2 (.seq (.cond (.t 12) .skip (.exit 0)) (.seq (.block 1 (.seq c115_5 (.seq c115_6 (.cond (.t 35) (.seq c115_7 .ret) .skip)))) c115_15)))))) (.seq c115_22 .ret))
def c115 : LF := .mk 39 c115_26 [.tmp 6]
theorem low115 : al Tryz.prog Tryz.f115 = some c115 := by kernel_rfl
def c116_0 : LC := .ops [oo 1 (.box (.t 0)), oo 2 (.mov (.c (.bool false)))]
def c116_1 : LC := .ops [oa 6 0 1, ol 7 6, oo 8 (.bin .eql (.t 7) (.c (.int .i64 3))), om 9 8, ga 10 9 false 0 1, gl 11 9 false 10, og 12 9 false (.bin .eql (.t 11) (.c (.int .i64 4))), gm 13 9 false 12, ga 14 13 true 4 1, gl 15 13 true 14, og 16 13 true (.len false (.t 15)), og 17 13 true (.bin .gtr (.t 16) (.c (.int .i64 0))), og 18 9 false (.pick (.t 13) (.t 17) (.c (.bool false))), pt 19 9 18, om 3 19]
def c116_2 : LC := .ops [oa 20 6 1, ol 21 20, on 22 21, oo 23 (.mov (.c (.int .i64 0)))]
def c116_3 : LC := .ops [kb 24 .lss 23 22]
def c116_6 : LC := .ops [oo 25 (.iaddr 2 (.t 21) (.t 23)), oo 26 (.load (some 2) (.t 25)), oo 5 (.alloc [.int .i64 0, .int .i64 0]), .mk none none (.store 2 (.t 5) (.t 26))]
def c116_7 : LC := .ops [oa 27 1 5, ol 28 27, oo 29 (.bin .lss (.t 28) (.c (.int .i64 0))), om 30 29, ga 31 30 false 1 5, gl 32 30 false 31, og 33 30 false (.bin .gtr (.t 32) (.c (.int .i64 6))), pt 34 30 33, om 35 34, ga 36 35 false 0 5, gl 37 35 false 36, og 38 35 false (.bin .lss (.t 37) (.c (.int .i64 (-5)))), pt 39 35 38, om 40 39, ga 41 40 false 0 5, gl 42 40 false 41, og 43 40 false (.bin .gtr (.t 42) (.c (.int .i64 5))), pt 44 40 43, om 45 44, ga 46 45 false 0 5, gl 47 45 false 46, og 48 45 false (.bin .neq (.t 47) (.c (.int .i64 0))), gm 49 45 false 48, gm 50 49 true 3, og 51 49 true (.un .not (.t 50)), og 52 45 false (.pick (.t 49) (.t 51) (.c (.bool false))), pt 53 45 52]
def c116_8 : LC := .ops [oo 2 (.mov (.c (.bool false)))]
def c116_16 : LC := .ops [oo 54 (.bin .add (.t 23) (.c (.int .i64 1))), om 23 54]
def c116_23 : LC := .ops [oa 55 6 1, ol 56 55, oo 57 (.call (.c (.fn 144 [])) [.t 56, .c (.fn 145 [])]), om 2 57]
def c116_28 : LC := .seq c116_0 (.seq c116_1 (.seq (.seq c116_2 (.block 0 (.loop (.seq c116_3 (.seq (.cond (.t 24) .skip (.exit 0)) (.seq (.block 1 (.seq c116_6 (.seq c116_7 (.cond (.t 53) (.seq c116_8 .ret) .skip)))) c116_16)))))) (.seq c116_23 .ret)))
def c116 : LF := .mk 58 c116_28 [.tmp 2]
theorem low116 : al Tryz.prog Tryz.f116 = some c116 := by kernel_rfl
def c118_0 : LC := .ops [oo 6 (.mov (.c (.bool false)))]
def c118_1 : LC := .ops [om 8 0, on 9 8, oo 10 (.mov (.c (.int .i64 0)))]
def c118_2 : LC := .ops [kb 11 .lss 10 9]
def c118_5 : LC := .ops [om 12 10, om 7 12]
def c118_6 : LC := .opsX [(om 13 0, []), (om 14 7, []), (oo 15 (.iaddr 1 (.t 13) (.t 14)), []), (ol 16 15, []), (om 17 1, []), (kb 18 .gtr 16 17, []), (om 19 18, []), (gm 20 19 false 0, []), (gm 21 19 false 7, []), (og 22 19 false (.iaddr 1 (.t 20) (.t 21)), []), (gl 23 19 false 22, []), (gm 24 19 false 1, []), (og 25 19 false (.un .neg (.t 24)), []), (og 26 19 false (.bin .lss (.t 23) (.t 25)), []), (pt 27 19 26, []), (om 28 27, []), (gm 29 28 false 0, []), (gm 30 28 false 7, []), (og 31 28 false (.iaddr 1 (.t 29) (.t 30)), []), (gl 32 28 false 31, []), (og 33 28 false (.bin .eql (.t 32) (.c (.int .i64 0))), []), (pt 34 28 33, []), (om 35 34, []), (gm 36 35 false 2, []), (og 37 35 false (.un .not (.t 36)), []), (gm 38 35 false 37, []), (gm 39 38 true 0, []), (gm 40 38 true 7, []), (og 41 38 true (.iaddr 1 (.t 39) (.t 40)), []), (gl 42 38 true 41, []), (og 43 38 true (.bin .lss (.t 42) (.c (.int .i64 0))), []), (og 44 35 false (.pick (.t 38) (.t 43) (.c (.bool false))), []), (pt 45 35 44, []), (om 46 45, []), (gm 47 46 false 7, []), (og 48 46 false (.bin .gtr (.t 47) (.c (.int .i64 0))), []), (gm 49 46 false 48, []), (gm 50 49 true 0, []), (gm 51 49 true 7, []), (og 52 49 true (.bin .sub (.t 51) (.c (.int .i64 1))), []), (og 53 49 true (.iaddr 1 (.t 50) (.t 52)), []), (gl 54 49 true 53, []), (gm 55 49 true 0, []), (gm 56 49 true 7, []), (og 57 49 true (.iaddr 1 (.t 55) (.t 56)), []), (gl 58 49 true 57, []), (og 59 49 true (.bin .geq (.t 54) (.t 58)), []), (og 60 46 false (.pick (.t 49) (.t 59) (.c (.bool false))), []), (pt 61 46 60, [])]
def c118_7 : LC := .ops [oo 6 (.mov (.c (.bool false)))]
def c118_15 : LC := .ops [oo 62 (.bin .add (.t 10) (.c (.int .i64 1))), om 10 62]
def c118_22 : LC := .ops [oo 6 (.mov (.c (.bool true)))]
def c118_26 : LC := .seq c118_0 (.seq (.seq c118_1 (.block 0 (.loop (.seq c118_2 (.seq (.cond (.t 11) .skip (.exit 0)) (.seq (.block 1 (.seq c118_5 (.seq c118_6 (.cond (.t 61) (.seq c118_7 .ret) .skip)))) c118_15)))))) (.seq c118_22 .ret))
def c118 : LF := .mk 63 c118_26 [.tmp 6]
theorem low118 : al Tryz.prog Tryz.f118 = some c118 := by kernel_rfl
def c119_0 : LC := .ops [oo 1 (.box (.t 0)), oo 2 (.mov (.c (.bool false)))]
def c119_1 : LC := .ops [oa 5 6 1, ol 6 5, on 7 6, oo 8 (.mov (.c (.int .i64 0)))]
def c119_2 : LC := .ops [kb 9 .lss 8 7]
def c119_5 : LC := .ops [om 10 8, om 3 10]
def c119_6 : LC := .ops [oa 11 6 1, ol 12 11, om 13 3, oo 14 (.iaddr 2 (.t 12) (.t 13)), oo 15 (.load (some 2) (.t 14)), oo 4 (.alloc [.int .i64 0, .int .i64 0]), .mk none none (.store 2 (.t 4) (.t 15))]
def c119_7 : LC := .ops [oa 16 1 4, ol 17 16, oo 18 (.bin .lss (.t 17) (.c (.int .i64 0))), om 19 18, ga 20 19 false 1 4, gl 21 19 false 20, og 22 19 false (.bin .gtr (.t 21) (.c (.int .i64 6))), pt 23 19 22, om 24 23, ga 25 24 false 0 4, gl 26 24 false 25, og 27 24 false (.bin .lss (.t 26) (.c (.int .i64 (-5)))), pt 28 24 27, om 29 28, ga 30 29 false 0 4, gl 31 29 false 30, og 32 29 false (.bin .gtr (.t 31) (.c (.int .i64 5))), pt 33 29 32]
def c119_8 : LC := .ops [oo 2 (.mov (.c (.bool false)))]
def c119_14 : LC := .ops [oa 34 0 4, ol 35 34, oo 36 (.bin .neq (.t 35) (.c (.int .i64 0))), om 37 36, ga 38 37 true 0 1, gl 39 37 true 38, og 40 37 true (.bin .lss (.t 39) (.c (.int .i64 3))), gm 41 37 true 40, ga 42 41 false 0 1, gl 43 41 false 42, og 44 41 false (.bin .eql (.t 43) (.c (.int .i64 4))), gm 45 41 false 44, ga 46 45 true 4 1, gl 47 45 true 46, og 48 45 true (.len false (.t 47)), og 49 45 true (.bin .eql (.t 48) (.c (.int .i64 0))), og 50 41 false (.pick (.t 45) (.t 49) (.c (.bool false))), og 51 37 true (.pick (.t 41) (.c (.bool true)) (.t 50)), pf 52 37 51]
def c119_15 : LC := .ops [oo 2 (.mov (.c (.bool false)))]
def c119_21 : LC := .opsX [(om 53 3, []), (oo 54 (.bin .gtr (.t 53) (.c (.int .i64 0))), []), (om 55 54, []), (ga 56 55 true 6 1, []), (gl 57 55 true 56, []), (gm 58 55 true 3, []), (og 59 55 true (.bin .sub (.t 58) (.c (.int .i64 1))), []), (og 60 55 true (.iaddr 2 (.t 57) (.t 59)), []), (ga 61 55 true 0 60, []), (gl 62 55 true 61, []), (ga 63 55 true 0 4, []), (gl 64 55 true 63, []), (og 65 55 true (.bin .gtr (.t 62) (.t 64)), []), (gm 66 55 true 65, []), (ga 67 66 false 6 1, []), (gl 68 66 false 67, []), (gm 69 66 false 3, []), (og 70 66 false (.bin .sub (.t 69) (.c (.int .i64 1))), []), (og 71 66 false (.iaddr 2 (.t 68) (.t 70)), []), (ga 72 66 false 0 71, []), (gl 73 66 false 72, []), (ga 74 66 false 0 4, []), (gl 75 66 false 74, []), (og 76 66 false (.bin .eql (.t 73) (.t 75)), []), (gm 77 66 false 76, []), (ga 78 77 true 6 1, []), (gl 79 77 true 78, []), (gm 80 77 true 3, []), (og 81 77 true (.bin .sub (.t 80) (.c (.int .i64 1))), []), (og 82 77 true (.iaddr 2 (.t 79) (.t 81)), []), (ga 83 77 true 1 82, []), (gl 84 77 true 83, []), (ga 85 77 true 1 4, []), (gl 86 77 true 85, []), (og 87 77 true (.bin .geq (.t 84) (.t 86)), []), (og 88 66 false (.pick (.t 77) (.t 87) (.c (.bool false))), []), (og 89 55 true (.pick (.t 66) (.c (.bool true)) (.t 88)), []), (pf 90 55 89, [])]
def c119_22 : LC := .ops [oo 2 (.mov (.c (.bool false)))]
def c119_33 : LC := .ops [oo 91 (.bin .add (.t 8) (.c (.int .i64 1))), om 8 91]
def c119_40 : LC := .ops [oo 2 (.mov (.c (.bool true)))]
def c119_44 : LC := .seq c119_0 (.seq (.seq c119_1 (.block 0 (.loop (.seq c119_2 (.seq (.cond (.t 9) .skip (.exit 0)) (.seq (.block 1 (.seq c119_5 (.seq c119_6 (.seq (.seq c119_7 (.cond (.t 33) (.seq c119_8 .ret) .skip)) (.seq (.seq c119_14 (.cond (.t 52) (.seq c119_15 .ret) .skip)) (.seq c119_21 (.cond (.t 90) (.seq c119_22 .ret) .skip))))))) c119_33)))))) (.seq c119_40 .ret))
def c119 : LF := .mk 92 c119_44 [.tmp 2]
theorem low119 : al Tryz.prog Tryz.f119 = some c119 := by kernel_rfl
def c120_0 : LC := .ops [om 9 0, kk 10 9, oa 11 1 10, ol 12 11, oo 13 (.eq .ptr true (.t 12) (.c .nilp))]
def c120_1 : LC := .ops [om 14 0, kk 15 14, oa 16 1 15, ol 17 16, kc 18 147 [.t 17], om 8 18]
def c120_2 : LC := .ops [om 19 1, om 20 8, kk 21 19, .mk none none (.store 1 (.t 21) (.t 20))]
def c120_3 : LC := .ops [om 22 0, om 23 0, kk 24 23, oa 25 2 24, ol 26 25, om 27 26, gm 28 27 false 8, gm 29 27 false 2, og 30 27 false (.bin .lss (.t 28) (.t 29)), pt 31 27 30, om 32 31, gm 33 32 false 8, gm 34 32 false 3, og 35 32 false (.bin .gtr (.t 33) (.t 34)), pt 36 32 35, kk 37 22, oa 38 2 37, .mk none none (.store 1 (.t 38) (.t 36))]
def c120_11 : LC := .ops [om 39 0, om 40 0, kk 41 40, oa 42 2 41, ol 43 42, om 44 43, gm 45 44 false 1, og 46 44 false (.chk (.t 45)), gl 47 44 false 46, gm 48 44 false 2, og 49 44 false (.bin .lss (.t 47) (.t 48)), pt 50 44 49, om 51 50, gm 52 51 false 1, og 53 51 false (.chk (.t 52)), gl 54 51 false 53, gm 55 51 false 3, og 56 51 false (.bin .gtr (.t 54) (.t 55)), pt 57 51 56, kk 58 39, oa 59 2 58, .mk none none (.store 1 (.t 59) (.t 57))]
def c120_12 : LC := .opsX [(om 60 0, []), (kk 61 60, []), (oa 62 0 61, []), (ol 63 62, []), (om 64 1, []), (kk 65 64, []), (ol 66 65, []), (kx 67 148 [.t 63, .t 66], [])]
def c120_14 : LC := .seq (.seq c120_0 (.cond (.t 13) (.seq c120_1 (.seq c120_2 (.seq c120_3 .ret))) .skip)) (.seq c120_11 c120_12)
def c120 : LF := .mk 68 c120_14 []
theorem low120 : al Tryz.prog Tryz.f120 = some c120 := by kernel_rfl
def c121_0 : LC := .ops [oo 2 (.mov (.c (.bool false)))]
def c121_1 : LC := .ops [om 3 0, oo 4 (.eq .ptr false (.t 3) (.c .nilp)), om 5 4, gm 6 5 false 0, og 7 5 false (.chk (.t 6)), ga 8 5 false 1 7, gl 9 5 false 8, pt 10 5 9, om 2 10]
def c121_4 : LC := .seq c121_0 (.seq c121_1 .ret)
def c121 : LF := .mk 11 c121_4 [.tmp 2]
theorem low121 : al Tryz.prog Tryz.f121 = some c121 := by kernel_rfl
def c122_0 : LC := .ops [oo 2 (.box (.t 0))]
def c122_1 : LC := .opsX [(ol 4 2, []), (om 5 1, []), (kk 6 5, []), (oa 7 0 6, []), (kx 8 149 [.t 4, .t 7], [])]
def c122_2 : LC := .opsX [(ol 9 2, []), (om 10 1, []), (kk 11 10, []), (oa 12 2 11, []), (oa 13 0 12, []), (kx 14 150 [.t 9, .t 13, .c (.int .i64 10)], [])]
def c122_3 : LC := .opsX [(ol 15 2, []), (om 16 1, []), (kk 17 16, []), (oa 18 2 17, []), (oa 19 1 18, []), (oo 20 (.mkfn 152 [.t 2]), []), (kx 21 151 [.t 15, .t 19, .c (.int .i64 60), .t 20], [])]
def c122_4 : LC := .opsX [(ol 22 2, []), (om 23 1, []), (kk 24 23, []), (oa 25 4 24, []), (kx 26 131 [.t 22, .t 25, .c (.int .u64 240)], [])]
def c122_5 : LC := .opsX [(ol 27 2, []), (om 28 1, []), (kk 29 28, []), (oa 30 5 29, []), (kx 31 131 [.t 27, .t 30, .c (.int .u64 240)], [])]
def c122_10 : LC := .seq c122_0 (.seq c122_1 (.seq c122_2 (.seq c122_3 (.seq c122_4 c122_5))))
def c122 : LF := .mk 32 c122_10 []
theorem low122 : al Tryz.prog Tryz.f122 = some c122 := by kernel_rfl
def c123 : LF := iN 17 240 (some 17) [.int .u32 0, .int .i64 0, .int .i64 0, .bool false, .bool false, .int .i64 0, .int .i64 0, .int .i64 0, .int .i64 0, .list (some true) true [], .list (some true) true [], .list (some true) true [], .list (some true) true [], .int .i64 0, .list (some true) true [], .list (some true) true [], .list (some true) true []]
theorem low123 : al Tryz.prog Tryz.f123 = some c123 := by kernel_rfl
def c124_0 : LC := .opsX [(ol 3 1, []), (om 4 0, []), (kk 5 4, []), (oa 6 0 5, []), (kx 7 94 [.t 3, .t 6], [])]
def c124_1 : LC := .opsX [(ol 8 1, []), (om 9 0, []), (kk 10 9, []), (oa 11 1 10, []), (kx 12 125 [.t 8, .t 11], [])]
def c124_2 : LC := .seq c124_0 c124_1
def c124 : LF := .mk 13 c124_2 []
theorem low124 : al Tryz.prog Tryz.f124 = some c124 := by kernel_rfl
def c125_0 : LC := .ops [oo 2 (.box (.t 0))]
def c125_1 : LC := .opsX [(ol 4 2, []), (om 5 1, []), (kk 6 5, []), (oa 7 0 6, []), (kx 8 87 [.t 4, .t 7], [])]
def c125_2 : LC := .opsX [(ol 9 2, []), (om 10 1, []), (kk 11 10, []), (oa 12 1 11, []), (kx 13 131 [.t 9, .t 12, .c (.int .u64 10080)], [])]
def c125_3 : LC := .opsX [(ol 14 2, []), (om 15 1, []), (kk 16 15, []), (oa 17 3 16, []), (kx 18 153 [.t 14, .t 17], [])]
def c125_4 : LC := .ops [om 19 1, kk 20 19, oa 21 3 20, ol 22 21, oo 23 (.un .not (.t 22))]
def c125_5 : LC := .opsX [(ol 24 2, []), (om 25 1, []), (kk 26 25, []), (oa 27 2 26, []), (kx 28 153 [.t 24, .t 27], [])]
def c125_11 : LC := .opsX [(ol 29 2, []), (om 30 1, []), (kk 31 30, []), (oa 32 4 31, []), (kx 33 154 [.t 29, .t 32], [])]
def c125_12 : LC := .opsX [(ol 34 2, []), (om 35 1, []), (kk 36 35, []), (oa 37 13 36, []), (oo 38 (.mkfn 155 [.t 2]), []), (kx 39 127 [.t 34, .t 37, .c (.int .i64 50), .t 38], [])]
def c125_13 : LC := .opsX [(ol 40 2, []), (om 41 1, []), (kk 42 41, []), (oa 43 14 42, []), (oo 44 (.mkfn 156 [.t 2]), []), (kx 45 127 [.t 40, .t 43, .c (.int .i64 50), .t 44], [])]
def c125_14 : LC := .opsX [(ol 46 2, []), (om 47 1, []), (kk 48 47, []), (oa 49 15 48, []), (oo 50 (.mkfn 158 [.t 2]), []), (kx 51 157 [.t 46, .t 49, .c (.int .i64 50), .t 50], [])]
def c125_22 : LC := .seq c125_0 (.seq c125_1 (.seq c125_2 (.seq c125_3 (.seq (.seq c125_4 (.cond (.t 23) (.seq c125_5 .ret) .skip)) (.seq c125_11 (.seq c125_12 (.seq c125_13 c125_14)))))))
def c125 : LF := .mk 52 c125_22 []
theorem low125 : al Tryz.prog Tryz.f125 = some c125 := by kernel_rfl
def c126_0 : LC := .ops [oo 2 (.box (.t 0))]
def c126_1 : LC := .opsX [(ol 4 2, []), (om 5 1, []), (kk 6 5, []), (oa 7 0 6, []), (oa 8 0 7, []), (kx 9 87 [.t 4, .t 8], [])]
def c126_2 : LC := .opsX [(ol 10 2, []), (om 11 1, []), (kk 12 11, []), (oa 13 0 12, []), (oa 14 1 13, []), (kx 15 87 [.t 10, .t 14], [])]
def c126_3 : LC := .opsX [(ol 16 2, []), (om 17 1, []), (kk 18 17, []), (oa 19 2 18, []), (kx 20 131 [.t 16, .t 19, .c (.int .u64 10080)], [])]
def c126_4 : LC := .opsX [(ol 21 2, []), (om 22 1, []), (kk 23 22, []), (oa 24 3 23, []), (kx 25 131 [.t 21, .t 24, .c (.int .u64 1440)], [])]
def c126_5 : LC := .opsX [(ol 26 2, []), (om 27 1, []), (kk 28 27, []), (oa 29 4 28, []), (oo 30 (.mkfn 160 [.t 2]), []), (kx 31 159 [.t 26, .t 29, .c (.int .i64 64), .t 30], [])]
def c126_6 : LC := .opsX [(ol 32 2, []), (om 33 1, []), (kk 34 33, []), (oa 35 5 34, []), (oo 36 (.mkfn 162 [.t 2]), []), (kx 37 161 [.t 32, .t 35, .c (.int .i64 16), .t 36], [])]
def c126_7 : LC := .opsX [(ol 38 2, []), (om 39 1, []), (kk 40 39, []), (oa 41 6 40, []), (kx 42 131 [.t 38, .t 41, .c (.int .u64 100)], [])]
def c126_8 : LC := .opsX [(ol 43 2, []), (om 44 1, []), (kk 45 44, []), (oa 46 7 45, []), (oo 47 (.mkfn 164 [.t 2]), []), (kx 48 163 [.t 43, .t 46, .c (.int .i64 32), .t 47], [])]
def c126_9 : LC := .opsX [(ol 49 2, []), (om 50 1, []), (kk 51 50, []), (oa 52 8 51, []), (kx 53 150 [.t 49, .t 52, .c (.int .i64 8)], [])]
def c126_18 : LC := .seq c126_0 (.seq c126_1 (.seq c126_2 (.seq c126_3 (.seq c126_4 (.seq c126_5 (.seq c126_6 (.seq c126_7 (.seq c126_8 c126_9))))))))
def c126 : LF := .mk 54 c126_18 []
theorem low126 : al Tryz.prog Tryz.f126 = some c126 := by kernel_rfl
def c127 : LF := iN 1 8 none [.int .i64 0]
theorem low127 : al Tryz.prog Tryz.f127 = some c127 := by kernel_rfl
def c128_0 : LC := .ops [ol 3 1, om 4 0, kc 5 87 [.t 3, .t 4]]
def c128 : LF := .mk 6 c128_0 []
theorem low128 : al Tryz.prog Tryz.f128 = some c128 := by kernel_rfl
def c129 : LF := iN 2 16 (some 2) [.int .u32 0, .int .i64 0]
theorem low129 : al Tryz.prog Tryz.f129 = some c129 := by kernel_rfl
def c130_0 : LC := .opsX [(ol 3 1, []), (om 4 0, []), (kk 5 4, []), (oa 6 0 5, []), (kx 7 94 [.t 3, .t 6], [])]
def c130_1 : LC := .opsX [(ol 8 1, []), (om 9 0, []), (kk 10 9, []), (oa 11 1 10, []), (kx 12 131 [.t 8, .t 11, .c (.int .u64 40)], [])]
def c130_2 : LC := .seq c130_0 c130_1
def c130 : LF := .mk 13 c130_2 []
theorem low130 : al Tryz.prog Tryz.f130 = some c130 := by kernel_rfl
def c131_0 : LC := .ops [om 6 0, kk 7 6, oa 8 1 7, ol 9 8, oo 10 (.eq .ptr true (.t 9) (.c .nilp))]
def c131_1 : LC := .ops [om 11 1, om 12 0, kk 13 12, oa 14 1 13, ol 15 14, om 16 2, kc 17 133 [.t 15, .t 16], oo 18 (.conv .i64 (.t 17)), kk 19 11, .mk none none (.store 1 (.t 19) (.t 18))]
def c131_7 : LC := .ops [om 20 0, om 21 0, kk 22 21, oa 23 2 22, ol 24 23, om 25 24, gm 26 25 false 1, og 27 25 false (.chk (.t 26)), gl 28 25 false 27, og 29 25 false (.conv .u64 (.t 28)), gm 30 25 false 2, og 31 25 false (.bin .gtr (.t 29) (.t 30)), pt 32 25 31, kk 33 20, oa 34 2 33, .mk none none (.store 1 (.t 34) (.t 32))]
def c131_8 : LC := .opsX [(om 35 0, []), (kk 36 35, []), (oa 37 0 36, []), (ol 38 37, []), (om 39 1, []), (kk 40 39, []), (ol 41 40, []), (oo 42 (.conv .u64 (.t 41)), []), (kx 43 134 [.t 38, .t 42], [])]
def c131_10 : LC := .seq (.seq c131_0 (.cond (.t 10) (.seq c131_1 .ret) .skip)) (.seq c131_7 c131_8)
def c131 : LF := .mk 44 c131_10 []
theorem low131 : al Tryz.prog Tryz.f131 = some c131 := by kernel_rfl
def c132_0 : LC := .ops [om 6 0, kk 7 6, oa 8 1 7, ol 9 8, oo 10 (.eq .ptr true (.t 9) (.c .nilp))]
def c132_1 : LC := .ops [om 11 1, om 12 0, kk 13 12, oa 14 1 13, ol 15 14, om 16 2, kc 17 133 [.t 15, .t 16], oo 18 (.conv .u32 (.t 17)), kk 19 11, .mk none none (.store 1 (.t 19) (.t 18))]
def c132_7 : LC := .ops [om 20 0, om 21 0, kk 22 21, oa 23 2 22, ol 24 23, om 25 24, gm 26 25 false 1, og 27 25 false (.chk (.t 26)), gl 28 25 false 27, og 29 25 false (.conv .u64 (.t 28)), gm 30 25 false 2, og 31 25 false (.bin .gtr (.t 29) (.t 30)), pt 32 25 31, kk 33 20, oa 34 2 33, .mk none none (.store 1 (.t 34) (.t 32))]
def c132_8 : LC := .opsX [(om 35 0, []), (kk 36 35, []), (oa 37 0 36, []), (ol 38 37, []), (om 39 1, []), (kk 40 39, []), (ol 41 40, []), (oo 42 (.conv .u64 (.t 41)), []), (kx 43 134 [.t 38, .t 42], [])]
def c132_10 : LC := .seq (.seq c132_0 (.cond (.t 10) (.seq c132_1 .ret) .skip)) (.seq c132_7 c132_8)
def c132 : LF := .mk 44 c132_10 []
theorem low132 : al Tryz.prog Tryz.f132 = some c132 := by kernel_rfl
def c133_0 : LC := .ops [oo 4 (.mov (.c (.int .u64 0)))]
def c133_1 : LC := .ops [oo 5 (.mov (.c (.int .u64 0)))]
def c133_2 : LC := .ops [oo 6 (.mov (.c (.int .i64 0)))]
def c133_3 : LC := .ops [om 9 0, kc 10 121 [.t 9], oo 11 (.un .not (.t 10)), om 12 11, gm 13 12 true 0, og 14 12 true (.chk (.t 13)), ga 15 12 true 0 14, gl 16 12 true 15, og 17 12 true (.len false (.t 16)), og 18 12 true (.bin .gtr (.t 17) (.c (.int .i64 0))), pf 19 12 18]
def c133_7 : LC := .ops [om 22 0, kk 23 22, oa 24 0 23, ol 25 24, oo 26 (.iaddr 1 (.t 25) (.c (.int .i64 0))), ol 27 26, om 7 27]
def c133_8 : LC := .ops [om 28 0, om 29 0, kk 30 29, oa 31 0 30, ol 32 31, oo 33 (.slice false 1 (.t 32) (some (.c (.int .i64 1))) none), kk 34 28, oa 35 0 34, .mk none none (.store 1 (.t 35) (.t 33))]
def c133_9 : LC := .ops [om 36 7, oo 37 (.bin .and (.t 36) (.c (.int .u8 127))), oo 38 (.conv .u64 (.t 37)), om 8 38]
def c133_10 : LC := .ops [om 39 6, oo 40 (.bin .gtr (.t 39) (.c (.int .i64 63))), om 41 40, gm 42 41 false 8, gm 43 41 false 6, og 44 41 false (.bin .shl (.t 42) (.t 43)), gm 45 41 false 6, og 46 41 false (.bin .shr (.t 44) (.t 45)), gm 47 41 false 8, og 48 41 false (.bin .neq (.t 46) (.t 47)), pt 49 41 48, om 50 49, gm 51 50 false 7, og 52 50 false (.bin .eql (.t 51) (.c (.int .u8 0))), gm 53 50 false 52, gm 54 53 true 6, og 55 53 true (.bin .gtr (.t 54) (.c (.int .i64 0))), og 56 50 false (.pick (.t 53) (.t 55) (.c (.bool false))), pt 57 50 56]
def c133_11 : LC := .ops [om 58 0, kc 59 165 [.t 58], om 4 59]
def c133_17 : LC := .ops [om 60 5, om 61 8, om 62 6, kb 63 .shl 61 62, kb 64 .or 60 63, om 5 64]
def c133_18 : LC := .ops [om 65 7, oo 66 (.bin .lss (.t 65) (.c (.int .u8 128)))]
def c133_19 : LC := .ops [om 67 5, om 68 1, kb 69 .gtr 67 68]
def c133_20 : LC := .ops [om 70 0, kc 71 165 [.t 70], om 4 71]
def c133_26 : LC := .ops [om 72 5, om 4 72]
def c133_39 : LC := .ops [om 20 6, oo 21 (.bin .add (.t 20) (.c (.int .i64 7))), om 6 21]
def c133_45 : LC := .ops [om 73 0, kc 74 165 [.t 73], om 4 74]
def c133_50 : LC := .seq c133_0 (.seq c133_1 (.seq (.seq c133_2 (.block 0 (.loop (.seq (.seq c133_3 (.cond (.t 19) .skip (.exit 0))) (.seq (.block 1 (.seq c133_7 (.seq c133_8 (.seq c133_9 (.seq (.seq c133_10 (.cond (.t 57) (.seq c133_11 .ret) .skip)) (.seq c133_17 (.seq c133_18 (.cond (.t 66) (.seq (.seq c133_19 (.cond (.t 69) (.seq c133_20 .ret) .skip)) (.seq c133_26 .ret)) .skip)))))))) c133_39))))) (.seq c133_45 .ret)))
def c133 : LF := .mk 75 c133_50 [.tmp 4]
theorem low133 : al Tryz.prog Tryz.f133 = some c133 := by kernel_rfl
def c134_0 : LC := .ops [om 4 0, oo 5 (.eq .ptr false (.t 4) (.c .nilp))]
def c134_5 : LC := .ops [om 6 1, oo 7 (.bin .geq (.t 6) (.c (.int .u64 128)))]
def c134_9 : LC := .ops [om 8 0, om 9 0, kk 10 9, oa 11 0 10, ol 12 11, om 13 1, oo 14 (.conv .u8 (.t 13)), oo 15 (.bin .or (.t 14) (.c (.int .u8 128))), oo 16 (.slit 1 [.t 15]), oo 17 (.app 1 1 (.t 12) (.t 16)), kk 18 8, oa 19 0 18, .mk none none (.store 1 (.t 19) (.t 17))]
def c134_10 : LC := .ops [om 20 1, oo 21 (.bin .shr (.t 20) (.c (.int .u64 7))), om 1 21]
def c134_16 : LC := .ops [om 22 0, om 23 0, kk 24 23, oa 25 0 24, ol 26 25, om 27 1, oo 28 (.conv .u8 (.t 27)), oo 29 (.slit 1 [.t 28]), oo 30 (.app 1 1 (.t 26) (.t 29)), kk 31 22, oa 32 0 31, .mk none none (.store 1 (.t 32) (.t 30))]
def c134_18 : LC := .seq (.seq c134_0 (.cond (.t 5) .ret .skip)) (.seq (.block 0 (.loop (.seq (.seq c134_5 (.cond (.t 7) .skip (.exit 0))) (.block 1 (.seq c134_9 c134_10))))) c134_16)
def c134 : LF := .mk 33 c134_18 []
theorem low134 : al Tryz.prog Tryz.f134 = some c134 := by kernel_rfl
def c135_0 : LC := .ops [oo 2 (.box (.t 0)), oo 3 (.box (.t 1)), oo 4 (.mov (.c (.bool false)))]
def c135_1 : LC := .ops [oa 5 0 2, oo 6 (.load (some 2) (.t 5)), oa 7 0 3, oo 8 (.load (some 2) (.t 7)), oo 9 (.eq (.row [.int, .int]) false (.t 6) (.t 8)), om 10 9, ga 11 10 true 2 2, gl 12 10 true 11, ga 13 10 true 2 3, gl 14 10 true 13, og 15 10 true (.bin .eql (.t 12) (.t 14)), pf 16 10 15, om 17 16, ga 18 17 true 3 2, gl 19 17 true 18, ga 20 17 true 3 3, gl 21 17 true 20, og 22 17 true (.bin .eql (.t 19) (.t 21)), pf 23 17 22, om 24 23, ga 25 24 true 4 2, gl 26 24 true 25, ga 27 24 true 4 3, gl 28 24 true 27, gk 29 24 true 166 [.t 26, .t 28], pf 30 24 29, om 31 30, ga 32 31 true 5 2, gl 33 31 true 32, ga 34 31 true 5 3, gl 35 31 true 34, gk 36 31 true 167 [.t 33, .t 35], pf 37 31 36, om 38 37, ga 39 38 true 6 2, gl 40 38 true 39, ga 41 38 true 6 3, gl 42 38 true 41, og 43 38 true (.bin .eql (.t 40) (.t 42)), pf 44 38 43, om 45 44, ga 46 45 true 7 2, gl 47 45 true 46, ga 48 45 true 7 3, gl 49 45 true 48, gk 50 45 true 168 [.t 47, .t 49], pf 51 45 50, om 52 51, ga 53 52 true 8 2, gl 54 52 true 53, ga 55 52 true 8 3, gl 56 52 true 55, gk 57 52 true 139 [.t 54, .t 56], pf 58 52 57, om 4 58]
def c135_4 : LC := .seq c135_0 (.seq c135_1 .ret)
def c135 : LF := .mk 59 c135_4 [.tmp 4]
theorem low135 : al Tryz.prog Tryz.f135 = some c135 := by kernel_rfl
def c136_0 : LC := .ops [oo 4 (.mov (.c (.bool false)))]
def c136_1 : LC := .ops [om 6 0, on 7 6, om 8 1, on 9 8, kb 10 .neq 7 9]
def c136_2 : LC := .ops [oo 4 (.mov (.c (.bool false)))]
def c136_8 : LC := .ops [om 11 0, on 12 11, oo 13 (.mov (.c (.int .i64 0)))]
def c136_9 : LC := .ops [kb 14 .lss 13 12]
def c136_12 : LC := .ops [om 15 13, om 5 15]
def c136_13 : LC := .opsX [(om 16 0, []), (om 17 5, []), (oo 18 (.iaddr 1 (.t 16) (.t 17)), []), (ol 19 18, []), (om 20 1, []), (om 21 5, []), (oo 22 (.iaddr 1 (.t 20) (.t 21)), []), (ol 23 22, []), (kb 24 .neq 19 23, [])]
def c136_14 : LC := .ops [oo 4 (.mov (.c (.bool false)))]
def c136_22 : LC := .ops [oo 25 (.bin .add (.t 13) (.c (.int .i64 1))), om 13 25]
def c136_29 : LC := .ops [oo 4 (.mov (.c (.bool true)))]
def c136_34 : LC := .seq c136_0 (.seq (.seq c136_1 (.cond (.t 10) (.seq c136_2 .ret) .skip)) (.seq (.seq c136_8 (.block 0 (.loop (.seq c136_9 (.seq (.cond (.t 14) .skip (.exit 0)) (.seq (.block 1 (.seq c136_12 (.seq c136_13 (.cond (.t 24) (.seq c136_14 .ret) .skip)))) c136_22)))))) (.seq c136_29 .ret)))
def c136 : LF := .mk 26 c136_34 [.tmp 4]
theorem low136 : al Tryz.prog Tryz.f136 = some c136 := by kernel_rfl
def c137_0 : LC := .ops [oo 4 (.mov (.c (.bool false)))]
def c137_1 : LC := .ops [om 6 0, on 7 6, om 8 1, on 9 8, kb 10 .neq 7 9]
def c137_2 : LC := .ops [oo 4 (.mov (.c (.bool false)))]
def c137_8 : LC := .ops [om 11 0, on 12 11, oo 13 (.mov (.c (.int .i64 0)))]
def c137_9 : LC := .ops [kb 14 .lss 13 12]
def c137_12 : LC := .ops [om 15 13, om 5 15]
def c137_13 : LC := .opsX [(om 16 0, []), (om 17 5, []), (oo 18 (.iaddr 2 (.t 16) (.t 17)), []), (oo 19 (.load (some 2) (.t 18)), []), (om 20 1, []), (om 21 5, []), (oo 22 (.iaddr 2 (.t 20) (.t 21)), []), (oo 23 (.load (some 2) (.t 22)), []), (oo 24 (.eq (.row [.int, .int]) true (.t 19) (.t 23)), [])]
def c137_14 : LC := .ops [oo 4 (.mov (.c (.bool false)))]
def c137_22 : LC := .ops [oo 25 (.bin .add (.t 13) (.c (.int .i64 1))), om 13 25]
def c137_29 : LC := .ops [oo 4 (.mov (.c (.bool true)))]
def c137_34 : LC := .seq c137_0 (.seq (.seq c137_1 (.cond (.t 10) (.seq c137_2 .ret) .skip)) (.seq (.seq c137_8 (.block 0 (.loop (.seq c137_9 (.seq (.cond (.t 14) .skip (.exit 0)) (.seq (.block 1 (.seq c137_12 (.seq c137_13 (.cond (.t 24) (.seq c137_14 .ret) .skip)))) c137_22)))))) (.seq c137_29 .ret)))
def c137 : LF := .mk 26 c137_34 [.tmp 4]
theorem low137 : al Tryz.prog Tryz.f137 = some c137 := by kernel_rfl
def c138_0 : LC := .ops [oo 4 (.mov (.c (.bool false)))]
def c138_1 : LC := .ops [om 6 0, on 7 6, om 8 1, on 9 8, kb 10 .neq 7 9]
def c138_2 : LC := .ops [oo 4 (.mov (.c (.bool false)))]
def c138_8 : LC := .ops [om 11 0, on 12 11, oo 13 (.mov (.c (.int .i64 0)))]
def c138_9 : LC := .ops [kb 14 .lss 13 12]
def c138_12 : LC := .ops [om 15 13, om 5 15]
def c138_13 : LC := .opsX [(om 16 0, []), (om 17 5, []), (oo 18 (.iaddr 2 (.t 16) (.t 17)), []), (oo 19 (.load (some 2) (.t 18)), []), (om 20 1, []), (om 21 5, []), (oo 22 (.iaddr 2 (.t 20) (.t 21)), []), (oo 23 (.load (some 2) (.t 22)), []), (oo 24 (.eq (.row [.int, .int]) true (.t 19) (.t 23)), [])]
def c138_14 : LC := .ops [oo 4 (.mov (.c (.bool false)))]
def c138_22 : LC := .ops [oo 25 (.bin .add (.t 13) (.c (.int .i64 1))), om 13 25]
def c138_29 : LC := .ops [oo 4 (.mov (.c (.bool true)))]
def c138_34 : LC := .seq c138_0 (.seq (.seq c138_1 (.cond (.t 10) (.seq c138_2 .ret) .skip)) (.seq (.seq c138_8 (.block 0 (.loop (.seq c138_9 (.seq (.cond (.t 14) .skip (.exit 0)) (.seq (.block 1 (.seq c138_12 (.seq c138_13 (.cond (.t 24) (.seq c138_14 .ret) .skip)))) c138_22)))))) (.seq c138_29 .ret)))
def c138 : LF := .mk 26 c138_34 [.tmp 4]
theorem low138 : al Tryz.prog Tryz.f138 = some c138 := by kernel_rfl
def c139_0 : LC := .ops [oo 4 (.mov (.c (.bool false)))]
def c139_1 : LC := .ops [om 6 0, on 7 6, om 8 1, on 9 8, kb 10 .neq 7 9]
def c139_2 : LC := .ops [oo 4 (.mov (.c (.bool false)))]
def c139_8 : LC := .ops [om 11 0, on 12 11, oo 13 (.mov (.c (.int .i64 0)))]
def c139_9 : LC := .ops [kb 14 .lss 13 12]
def c139_12 : LC := .ops [om 15 13, om 5 15]
def c139_13 : LC := .opsX [(om 16 0, []), (om 17 5, []), (oo 18 (.iaddr 3 (.t 16) (.t 17)), []), (oo 19 (.load (some 3) (.t 18)), []), (om 20 1, []), (om 21 5, []), (oo 22 (.iaddr 3 (.t 20) (.t 21)), []), (oo 23 (.load (some 3) (.t 22)), []), (oo 24 (.eq (.row [.int, .int, .int]) true (.t 19) (.t 23)), [])]
def c139_14 : LC := .ops [oo 4 (.mov (.c (.bool false)))]
def c139_22 : LC := .ops [oo 25 (.bin .add (.t 13) (.c (.int .i64 1))), om 13 25]
def c139_29 : LC := .ops [oo 4 (.mov (.c (.bool true)))]
def c139_34 : LC := .seq c139_0 (.seq (.seq c139_1 (.cond (.t 10) (.seq c139_2 .ret) .skip)) (.seq (.seq c139_8 (.block 0 (.loop (.seq c139_9 (.seq (.cond (.t 14) .skip (.exit 0)) (.seq (.block 1 (.seq c139_12 (.seq c139_13 (.cond (.t 24) (.seq c139_14 .ret) .skip)))) c139_22)))))) (.seq c139_29 .ret)))
def c139 : LF := .mk 26 c139_34 [.tmp 4]
theorem low139 : al Tryz.prog Tryz.f139 = some c139 := by kernel_rfl
def c140_0 : LC := .ops [oo 4 (.mov (.c (.bool false)))]
def c140_1 : LC := .ops [om 6 0, on 7 6, om 8 1, on 9 8, kb 10 .neq 7 9]
def c140_2 : LC := .ops [oo 4 (.mov (.c (.bool false)))]
def c140_8 : LC := .ops [om 11 0, on 12 11, oo 13 (.mov (.c (.int .i64 0)))]
def c140_9 : LC := .ops [kb 14 .lss 13 12]
def c140_12 : LC := .ops [om 15 13, om 5 15]
def c140_13 : LC := .opsX [(om 16 0, []), (om 17 5, []), (oo 18 (.iaddr 3 (.t 16) (.t 17)), []), (oo 19 (.load (some 3) (.t 18)), []), (om 20 1, []), (om 21 5, []), (oo 22 (.iaddr 3 (.t 20) (.t 21)), []), (oo 23 (.load (some 3) (.t 22)), []), (oo 24 (.eq (.row [.int, .int, .int]) true (.t 19) (.t 23)), [])]
def c140_14 : LC := .ops [oo 4 (.mov (.c (.bool false)))]
def c140_22 : LC := .ops [oo 25 (.bin .add (.t 13) (.c (.int .i64 1))), om 13 25]
def c140_29 : LC := .ops [oo 4 (.mov (.c (.bool true)))]
def c140_34 : LC := .seq c140_0 (.seq (.seq c140_1 (.cond (.t 10) (.seq c140_2 .ret) .skip)) (.seq (.seq c140_8 (.block 0 (.loop (.seq c140_9 (.seq (.cond (.t 14) .skip (.exit 0)) (.seq (.block 1 (.seq c140_12 (.seq c140_13 (.cond (.t 24) (.seq c140_14 .ret) .skip)))) c140_22)))))) (.seq c140_29 .ret)))
def c140 : LF := .mk 26 c140_34 [.tmp 4]
theorem low140 : al Tryz.prog Tryz.f140 = some c140 := by kernel_rfl
def c142_0 : LC := .ops [oo 4 (.mov (.c (.bool false)))]
def c142_1 : LC := .ops [oo 5 (.mov (.c (.int .i64 1)))]
def c142_2 : LC := .ops [om 6 5, om 7 0, on 8 7, kb 9 .lss 6 8]
def c142_6 : LC := .opsX [(om 12 1, []), (om 13 0, []), (om 14 5, []), (oo 15 (.bin .sub (.t 14) (.c (.int .i64 1))), []), (oo 16 (.iaddr 1 (.t 13) (.t 15)), []), (ol 17 16, []), (om 18 0, []), (om 19 5, []), (oo 20 (.iaddr 1 (.t 18) (.t 19)), []), (ol 21 20, []), (oo 22 (.callX (.t 12) [.t 17, .t 21]), []), (oo 23 (.un .not (.t 22)), [])]
def c142_7 : LC := .ops [oo 4 (.mov (.c (.bool false)))]
def c142_14 : LC := .ops [om 10 5, oo 11 (.bin .add (.t 10) (.c (.int .i64 1))), om 5 11]
def c142_20 : LC := .ops [oo 4 (.mov (.c (.bool true)))]
def c142_24 : LC := .seq c142_0 (.seq (.seq c142_1 (.block 0 (.loop (.seq (.seq c142_2 (.cond (.t 9) .skip (.exit 0))) (.seq (.block 1 (.seq c142_6 (.cond (.t 23) (.seq c142_7 .ret) .skip))) c142_14))))) (.seq c142_20 .ret))
def c142 : LF := .mk 24 c142_24 [.tmp 4]
theorem low142 : al Tryz.prog Tryz.f142 = some c142 := by kernel_rfl
def c143_0 : LC := .ops [oo 4 (.mov (.c (.bool false)))]
def c143_1 : LC := .ops [om 5 0, om 6 1, kb 7 .lss 5 6, om 4 7]
def c143_4 : LC := .seq c143_0 (.seq c143_1 .ret)
def c143 : LF := .mk 8 c143_4 [.tmp 4]
theorem low143 : al Tryz.prog Tryz.f143 = some c143 := by kernel_rfl
def c144_0 : LC := .ops [oo 4 (.mov (.c (.bool false)))]
def c144_1 : LC := .ops [oo 5 (.mov (.c (.int .i64 1)))]
def c144_2 : LC := .ops [om 6 5, om 7 0, on 8 7, kb 9 .lss 6 8]
def c144_6 : LC := .opsX [(om 12 1, []), (om 13 0, []), (om 14 5, []), (oo 15 (.bin .sub (.t 14) (.c (.int .i64 1))), []), (oo 16 (.iaddr 2 (.t 13) (.t 15)), []), (oo 17 (.load (some 2) (.t 16)), []), (om 18 0, []), (om 19 5, []), (oo 20 (.iaddr 2 (.t 18) (.t 19)), []), (oo 21 (.load (some 2) (.t 20)), []), (oo 22 (.callX (.t 12) [.t 17, .t 21]), []), (oo 23 (.un .not (.t 22)), [])]
def c144_7 : LC := .ops [oo 4 (.mov (.c (.bool false)))]
def c144_14 : LC := .ops [om 10 5, oo 11 (.bin .add (.t 10) (.c (.int .i64 1))), om 5 11]
def c144_20 : LC := .ops [oo 4 (.mov (.c (.bool true)))]
def c144_24 : LC := .seq c144_0 (.seq (.seq c144_1 (.block 0 (.loop (.seq (.seq c144_2 (.cond (.t 9) .skip (.exit 0))) (.seq (.block 1 (.seq c144_6 (.cond (.t 23) (.seq c144_7 .ret) .skip))) c144_14))))) (.seq c144_20 .ret))
def c144 : LF := .mk 24 c144_24 [.tmp 4]
theorem low144 : al Tryz.prog Tryz.f144 = some c144 := by kernel_rfl
def c145_0 : LC := .ops [oo 2 (.box (.t 0)), oo 3 (.box (.t 1)), oo 4 (.mov (.c (.bool false)))]
def c145_1 : LC := .ops [oa 5 0 2, ol 6 5, oa 7 0 3, ol 8 7, kb 9 .lss 6 8, om 10 9, ga 11 10 false 0 2, gl 12 10 false 11, ga 13 10 false 0 3, gl 14 10 false 13, og 15 10 false (.bin .eql (.t 12) (.t 14)), gm 16 10 false 15, ga 17 16 true 1 2, gl 18 16 true 17, ga 19 16 true 1 3, gl 20 16 true 19, og 21 16 true (.bin .lss (.t 18) (.t 20)), og 22 10 false (.pick (.t 16) (.t 21) (.c (.bool false))), pt 23 10 22, om 4 23]
def c145_4 : LC := .seq c145_0 (.seq c145_1 .ret)
def c145 : LF := .mk 24 c145_4 [.tmp 4]
theorem low145 : al Tryz.prog Tryz.f145 = some c145 := by kernel_rfl
def c147_0 : LC := .ops [oo 2 (.mov (.c (.int .i64 0)))]
def c147_1 : LC := .ops [om 4 0, kc 5 133 [.t 4, .c (.int .u64 18446744073709551615)], om 3 5]
def c147_2 : LC := .ops [om 6 3, oo 7 (.bin .shr (.t 6) (.c (.int .u64 1))), oo 8 (.conv .i64 (.t 7)), om 9 3, oo 10 (.bin .and (.t 9) (.c (.int .u64 1))), oo 11 (.conv .i64 (.t 10)), oo 12 (.un .neg (.t 11)), kb 13 .xor 8 12, om 2 13]
def c147_6 : LC := .seq c147_0 (.seq c147_1 (.seq c147_2 .ret))
def c147 : LF := .mk 14 c147_6 [.tmp 2]
theorem low147 : al Tryz.prog Tryz.f147 = some c147 := by kernel_rfl
def c148_0 : LC := .ops [om 4 0, om 5 1, oo 6 (.conv .u64 (.t 5)), oo 7 (.bin .shl (.t 6) (.c (.int .u64 1))), om 8 1, oo 9 (.bin .shr (.t 8) (.c (.int .u64 63))), oo 10 (.conv .u64 (.t 9)), kb 11 .xor 7 10, kc 12 134 [.t 4, .t 11]]
def c148 : LF := .mk 13 c148_0 []
theorem low148 : al Tryz.prog Tryz.f148 = some c148 := by kernel_rfl
def c149_0 : LC := .ops [oo 2 (.box (.t 0))]
def c149_1 : LC := .opsX [(ol 4 2, []), (om 5 1, []), (kk 6 5, []), (oa 7 0 6, []), (kx 8 170 [.t 4, .t 7, .c (.int .i64 (-900)), .c (.int .i64 900)], [])]
def c149_2 : LC := .opsX [(ol 9 2, []), (om 10 1, []), (kk 11 10, []), (oa 12 1 11, []), (oo 13 (.mkfn 172 [.t 2]), []), (kx 14 171 [.t 9, .t 12, .c (.int .i64 700), .t 13], [])]
def c149_4 : LC := .seq c149_0 (.seq c149_1 c149_2)
def c149 : LF := .mk 15 c149_4 []
theorem low149 : al Tryz.prog Tryz.f149 = some c149 := by kernel_rfl
def c150_0 : LC := .ops [oo 3 (.box (.t 0))]
def c150_1 : LC := .ops [ol 6 3, om 7 1, om 8 2, oo 9 (.mkfn 174 [.t 3]), kc 10 173 [.t 6, .t 7, .t 8, .t 9]]
def c150_2 : LC := .seq c150_0 c150_1
def c150 : LF := .mk 11 c150_2 []
theorem low150 : al Tryz.prog Tryz.f150 = some c150 := by kernel_rfl
def c151 : LF := iN 1 8 none [.int .i64 0]
theorem low151 : al Tryz.prog Tryz.f151 = some c151 := by kernel_rfl
def c152_0 : LC := .ops [ol 3 1, om 4 0, kc 5 131 [.t 3, .t 4, .c (.int .u64 109937)]]
def c152 : LF := .mk 6 c152_0 []
theorem low152 : al Tryz.prog Tryz.f152 = some c152 := by kernel_rfl
def c153_0 : LC := .ops [om 4 0, kk 5 4, oa 6 1 5, ol 7 6, oo 8 (.eq .ptr true (.t 7) (.c .nilp))]
def c153_1 : LC := .ops [om 9 1, om 10 0, kk 11 10, oa 12 1 11, ol 13 12, kc 14 175 [.t 13], kk 15 9, .mk none none (.store 1 (.t 15) (.t 14))]
def c153_7 : LC := .opsX [(om 16 0, []), (kk 17 16, []), (oa 18 0 17, []), (ol 19 18, []), (om 20 1, []), (kk 21 20, []), (ol 22 21, []), (kx 23 176 [.t 19, .t 22], [])]
def c153_8 : LC := .seq (.seq c153_0 (.cond (.t 8) (.seq c153_1 .ret) .skip)) c153_7
def c153 : LF := .mk 24 c153_8 []
theorem low153 : al Tryz.prog Tryz.f153 = some c153 := by kernel_rfl
def c154_0 : LC := .ops [oo 2 (.box (.t 0))]
def c154_1 : LC := .opsX [(ol 4 2, []), (om 5 1, []), (kk 6 5, []), (oa 7 0 6, []), (kx 8 131 [.t 4, .t 7, .c (.int .u64 4)], [])]
def c154_2 : LC := .opsX [(ol 9 2, []), (om 10 1, []), (kk 11 10, []), (oa 12 1 11, []), (kx 13 131 [.t 9, .t 12, .c (.int .u64 999)], [])]
def c154_3 : LC := .opsX [(ol 14 2, []), (om 15 1, []), (kk 16 15, []), (oa 17 2 16, []), (kx 18 131 [.t 14, .t 17, .c (.int .u64 5000)], [])]
def c154_4 : LC := .opsX [(ol 19 2, []), (om 20 1, []), (kk 21 20, []), (oa 22 3 21, []), (kx 23 87 [.t 19, .t 22], [])]
def c154_5 : LC := .opsX [(ol 24 2, []), (om 25 1, []), (kk 26 25, []), (oa 27 4 26, []), (kx 28 177 [.t 24, .t 27], [])]
def c154_6 : LC := .opsX [(ol 29 2, []), (om 30 1, []), (kk 31 30, []), (oa 32 5 31, []), (kx 33 177 [.t 29, .t 32], [])]
def c154_7 : LC := .opsX [(ol 34 2, []), (om 35 1, []), (kk 36 35, []), (oa 37 6 36, []), (oo 38 (.mkfn 179 [.t 2]), []), (kx 39 178 [.t 34, .t 37, .c (.int .i64 400), .t 38], [])]
def c154_8 : LC := .opsX [(ol 40 2, []), (om 41 1, []), (kk 42 41, []), (oa 43 7 42, []), (kx 44 177 [.t 40, .t 43], [])]
def c154_9 : LC := .opsX [(ol 45 2, []), (om 46 1, []), (kk 47 46, []), (oa 48 8 47, []), (kx 49 131 [.t 45, .t 48, .c (.int .u64 6)], [])]
def c154_18 : LC := .seq c154_0 (.seq c154_1 (.seq c154_2 (.seq c154_3 (.seq c154_4 (.seq c154_5 (.seq c154_6 (.seq c154_7 (.seq c154_8 c154_9))))))))
def c154 : LF := .mk 50 c154_18 []
theorem low154 : al Tryz.prog Tryz.f154 = some c154 := by kernel_rfl
def c155_0 : LC := .ops [ol 3 1, om 4 0, kc 5 87 [.t 3, .t 4]]
def c155 : LF := .mk 6 c155_0 []
theorem low155 : al Tryz.prog Tryz.f155 = some c155 := by kernel_rfl
def c156_0 : LC := .ops [ol 3 1, om 4 0, kc 5 87 [.t 3, .t 4]]
def c156 : LF := .mk 6 c156_0 []
theorem low156 : al Tryz.prog Tryz.f156 = some c156 := by kernel_rfl
def c157 : LF := iN 3 24 (some 3) [.int .i64 0, .int .i64 0, .int .i64 0]
theorem low157 : al Tryz.prog Tryz.f157 = some c157 := by kernel_rfl
def c158_0 : LC := .opsX [(ol 3 1, []), (om 4 0, []), (kk 5 4, []), (oa 6 0 5, []), (kx 7 87 [.t 3, .t 6], [])]
def c158_1 : LC := .opsX [(ol 8 1, []), (om 9 0, []), (kk 10 9, []), (oa 11 1 10, []), (kx 12 87 [.t 8, .t 11], [])]
def c158_2 : LC := .opsX [(ol 13 1, []), (om 14 0, []), (kk 15 14, []), (oa 16 2 15, []), (kx 17 131 [.t 13, .t 16, .c (.int .u64 10080)], [])]
def c158_4 : LC := .seq c158_0 (.seq c158_1 c158_2)
def c158 : LF := .mk 18 c158_4 []
theorem low158 : al Tryz.prog Tryz.f158 = some c158 := by kernel_rfl
def c159 : LF := iN 1 4 none [.int .u32 0]
theorem low159 : al Tryz.prog Tryz.f159 = some c159 := by kernel_rfl
def c160_0 : LC := .ops [ol 3 1, om 4 0, kc 5 94 [.t 3, .t 4]]
def c160 : LF := .mk 6 c160_0 []
theorem low160 : al Tryz.prog Tryz.f160 = some c160 := by kernel_rfl
def c161 : LF := iN 2 16 (some 2) [.int .u32 0, .int .i64 0]
theorem low161 : al Tryz.prog Tryz.f161 = some c161 := by kernel_rfl
def c162_0 : LC := .opsX [(ol 3 1, []), (om 4 0, []), (kk 5 4, []), (oa 6 0 5, []), (kx 7 94 [.t 3, .t 6], [])]
def c162_1 : LC := .opsX [(ol 8 1, []), (om 9 0, []), (kk 10 9, []), (oa 11 1 10, []), (kx 12 131 [.t 8, .t 11, .c (.int .u64 1000)], [])]
def c162_2 : LC := .seq c162_0 c162_1
def c162 : LF := .mk 13 c162_2 []
theorem low162 : al Tryz.prog Tryz.f162 = some c162 := by kernel_rfl
def c163 : LF := iN 2 8 (some 2) [.int .u32 0, .int .u32 0]
theorem low163 : al Tryz.prog Tryz.f163 = some c163 := by kernel_rfl
def c164_0 : LC := .opsX [(ol 3 1, []), (om 4 0, []), (kk 5 4, []), (oa 6 0 5, []), (kx 7 94 [.t 3, .t 6], [])]
def c164_1 : LC := .opsX [(ol 8 1, []), (om 9 0, []), (kk 10 9, []), (oa 11 1 10, []), (kx 12 94 [.t 8, .t 11], [])]
def c164_2 : LC := .seq c164_0 c164_1
def c164 : LF := .mk 13 c164_2 []
theorem low164 : al Tryz.prog Tryz.f164 = some c164 := by kernel_rfl
def c165_0 : LC := .ops [oo 2 (.mov (.c (.int .u64 0)))]
def c165_1 : LC := .ops [om 3 0, oo 4 (.eq .ptr true (.t 3) (.c .nilp))]
def c165_2 : LC := .ops [om 5 0, kk 6 5, oa 7 1 6, .mk none none (.store 1 (.t 7) (.c (.bool true)))]
def c165_6 : LC := .ops [oo 2 (.mov (.c (.int .u64 0)))]
def c165_10 : LC := .seq c165_0 (.seq (.seq c165_1 (.cond (.t 4) c165_2 .skip)) (.seq c165_6 .ret))
def c165 : LF := .mk 8 c165_10 [.tmp 2]
theorem low165 : al Tryz.prog Tryz.f165 = some c165 := by kernel_rfl
def c166_0 : LC := .ops [oo 4 (.mov (.c (.bool false)))]
def c166_1 : LC := .ops [om 6 0, on 7 6, om 8 1, on 9 8, kb 10 .neq 7 9]
def c166_2 : LC := .ops [oo 4 (.mov (.c (.bool false)))]
def c166_8 : LC := .ops [om 11 0, on 12 11, oo 13 (.mov (.c (.int .i64 0)))]
def c166_9 : LC := .ops [kb 14 .lss 13 12]
def c166_12 : LC := .ops [om 15 13, om 5 15]
def c166_13 : LC := .opsX [(om 16 0, []), (om 17 5, []), (oo 18 (.iaddr 1 (.t 16) (.t 17)), []), (ol 19 18, []), (om 20 1, []), (om 21 5, []), (oo 22 (.iaddr 1 (.t 20) (.t 21)), []), (ol 23 22, []), (kb 24 .neq 19 23, [])]
def c166_14 : LC := .ops [oo 4 (.mov (.c (.bool false)))]
def c166_22 : LC := .ops [oo 25 (.bin .add (.t 13) (.c (.int .i64 1))), om 13 25]
def c166_29 : LC := .ops [oo 4 (.mov (.c (.bool true)))]
def c166_34 : LC := .seq c166_0 (.seq (.seq c166_1 (.cond (.t 10) (.seq c166_2 .ret) .skip)) (.seq (.seq c166_8 (.block 0 (.loop (.seq c166_9 (.seq (.cond (.t 14) .skip (.exit 0)) (.seq (.block 1 (.seq c166_12 (.seq c166_13 (.cond (.t 24) (.seq c166_14 .ret) .skip)))) c166_22)))))) (.seq c166_29 .ret)))
def c166 : LF := .mk 26 c166_34 [.tmp 4]
theorem low166 : al Tryz.prog Tryz.f166 = some c166 := by kernel_rfl
def c167_0 : LC := .ops [oo 4 (.mov (.c (.bool false)))]
def c167_1 : LC := .ops [om 6 0, on 7 6, om 8 1, on 9 8, kb 10 .neq 7 9]
def c167_2 : LC := .ops [oo 4 (.mov (.c (.bool false)))]
def c167_8 : LC := .ops [om 11 0, on 12 11, oo 13 (.mov (.c (.int .i64 0)))]
def c167_9 : LC := .ops [kb 14 .lss 13 12]
def c167_12 : LC := .ops [om 15 13, om 5 15]
def c167_13 : LC := .opsX [(om 16 0, []), (om 17 5, []), (oo 18 (.iaddr 2 (.t 16) (.t 17)), []), (oo 19 (.load (some 2) (.t 18)), []), (om 20 1, []), (om 21 5, []), (oo 22 (.iaddr 2 (.t 20) (.t 21)), []), (oo 23 (.load (some 2) (.t 22)), []), (oo 24 (.eq (.row [.int, .int]) true (.t 19) (.t 23)), [])]
def c167_14 : LC := .ops [oo 4 (.mov (.c (.bool false)))]
def c167_22 : LC := .ops [oo 25 (.bin .add (.t 13) (.c (.int .i64 1))), om 13 25]
def c167_29 : LC := .ops [oo 4 (.mov (.c (.bool true)))]
def c167_34 : LC := .seq c167_0 (.seq (.seq c167_1 (.cond (.t 10) (.seq c167_2 .ret) .skip)) (.seq (.seq c167_8 (.block 0 (.loop (.seq c167_9 (.seq (.cond (.t 14) .skip (.exit 0)) (.seq (.block 1 (.seq c167_12 (.seq c167_13 (.cond (.t 24) (.seq c167_14 .ret) .skip)))) c167_22)))))) (.seq c167_29 .ret)))
def c167 : LF := .mk 26 c167_34 [.tmp 4]
theorem low167 : al Tryz.prog Tryz.f167 = some c167 := by kernel_rfl
def c168_0 : LC := .ops [oo 4 (.mov (.c (.bool false)))]
def c168_1 : LC := .ops [om 6 0, on 7 6, om 8 1, on 9 8, kb 10 .neq 7 9]
def c168_2 : LC := .ops [oo 4 (.mov (.c (.bool false)))]
def c168_8 : LC := .ops [om 11 0, on 12 11, oo 13 (.mov (.c (.int .i64 0)))]
def c168_9 : LC := .ops [kb 14 .lss 13 12]
def c168_12 : LC := .ops [om 15 13, om 5 15]
def c168_13 : LC := .opsX [(om 16 0, []), (om 17 5, []), (oo 18 (.iaddr 2 (.t 16) (.t 17)), []), (oo 19 (.load (some 2) (.t 18)), []), (om 20 1, []), (om 21 5, []), (oo 22 (.iaddr 2 (.t 20) (.t 21)), []), (oo 23 (.load (some 2) (.t 22)), []), (oo 24 (.eq (.row [.int, .int]) true (.t 19) (.t 23)), [])]
def c168_14 : LC := .ops [oo 4 (.mov (.c (.bool false)))]
def c168_22 : LC := .ops [oo 25 (.bin .add (.t 13) (.c (.int .i64 1))), om 13 25]
def c168_29 : LC := .ops [oo 4 (.mov (.c (.bool true)))]
def c168_34 : LC := .seq c168_0 (.seq (.seq c168_1 (.cond (.t 10) (.seq c168_2 .ret) .skip)) (.seq (.seq c168_8 (.block 0 (.loop (.seq c168_9 (.seq (.cond (.t 14) .skip (.exit 0)) (.seq (.block 1 (.seq c168_12 (.seq c168_13 (.cond (.t 24) (.seq c168_14 .ret) .skip)))) c168_22)))))) (.seq c168_29 .ret)))
def c168 : LF := .mk 26 c168_34 [.tmp 4]
theorem low168 : al Tryz.prog Tryz.f168 = some c168 := by kernel_rfl
def c170_0 : LC := .ops [om 9 0, kk 10 9, oa 11 1 10, ol 12 11, oo 13 (.eq .ptr true (.t 12) (.c .nilp))]
def c170_1 : LC := .ops [om 14 0, kk 15 14, oa 16 1 15, ol 17 16, kc 18 147 [.t 17], om 8 18]
def c170_2 : LC := .ops [om 19 1, om 20 8, kk 21 19, .mk none none (.store 1 (.t 21) (.t 20))]
def c170_3 : LC := .ops [om 22 0, om 23 0, kk 24 23, oa 25 2 24, ol 26 25, om 27 26, gm 28 27 false 8, gm 29 27 false 2, og 30 27 false (.bin .lss (.t 28) (.t 29)), pt 31 27 30, om 32 31, gm 33 32 false 8, gm 34 32 false 3, og 35 32 false (.bin .gtr (.t 33) (.t 34)), pt 36 32 35, kk 37 22, oa 38 2 37, .mk none none (.store 1 (.t 38) (.t 36))]
def c170_11 : LC := .ops [om 39 0, om 40 0, kk 41 40, oa 42 2 41, ol 43 42, om 44 43, gm 45 44 false 1, og 46 44 false (.chk (.t 45)), gl 47 44 false 46, gm 48 44 false 2, og 49 44 false (.bin .lss (.t 47) (.t 48)), pt 50 44 49, om 51 50, gm 52 51 false 1, og 53 51 false (.chk (.t 52)), gl 54 51 false 53, gm 55 51 false 3, og 56 51 false (.bin .gtr (.t 54) (.t 55)), pt 57 51 56, kk 58 39, oa 59 2 58, .mk none none (.store 1 (.t 59) (.t 57))]
def c170_12 : LC := .opsX [(om 60 0, []), (kk 61 60, []), (oa 62 0 61, []), (ol 63 62, []), (om 64 1, []), (kk 65 64, []), (ol 66 65, []), (kx 67 148 [.t 63, .t 66], [])]
def c170_14 : LC := .seq (.seq c170_0 (.cond (.t 13) (.seq c170_1 (.seq c170_2 (.seq c170_3 .ret))) .skip)) (.seq c170_11 c170_12)
def c170 : LF := .mk 68 c170_14 []
theorem low170 : al Tryz.prog Tryz.f170 = some c170 := by kernel_rfl
def c171 : LF := iN 2 16 (some 2) [.int .i64 0, .int .i64 0]
theorem low171 : al Tryz.prog Tryz.f171 = some c171 := by kernel_rfl
def c172_0 : LC := .opsX [(ol 3 1, []), (om 4 0, []), (kk 5 4, []), (oa 6 0 5, []), (kx 7 87 [.t 3, .t 6], [])]
def c172_1 : LC := .opsX [(ol 8 1, []), (om 9 0, []), (kk 10 9, []), (oa 11 1 10, []), (kx 12 170 [.t 8, .t 11, .c (.int .i64 (-900)), .c (.int .i64 900)], [])]
def c172_2 : LC := .seq c172_0 c172_1
def c172 : LF := .mk 13 c172_2 []
theorem low172 : al Tryz.prog Tryz.f172 = some c172 := by kernel_rfl
def c173 : LF := iN 3 24 (some 3) [.int .i64 0, .int .i64 0, .int .i64 0]
theorem low173 : al Tryz.prog Tryz.f173 = some c173 := by kernel_rfl
def c174_0 : LC := .opsX [(ol 3 1, []), (om 4 0, []), (kk 5 4, []), (oa 6 0 5, []), (kx 7 131 [.t 3, .t 6, .c (.int .u64 127)], [])]
def c174_1 : LC := .opsX [(ol 8 1, []), (om 9 0, []), (kk 10 9, []), (oa 11 1 10, []), (kx 12 131 [.t 8, .t 11, .c (.int .u64 1440)], [])]
def c174_2 : LC := .opsX [(ol 13 1, []), (om 14 0, []), (kk 15 14, []), (oa 16 2 15, []), (kx 17 131 [.t 13, .t 16, .c (.int .u64 1440)], [])]
def c174_4 : LC := .seq c174_0 (.seq c174_1 c174_2)
def c174 : LF := .mk 18 c174_4 []
theorem low174 : al Tryz.prog Tryz.f174 = some c174 := by kernel_rfl
def c175_0 : LC := .ops [oo 2 (.mov (.c (.bool false)))]
def c175_1 : LC := .ops [om 3 0, kc 4 133 [.t 3, .c (.int .u64 1)], oo 5 (.bin .eql (.t 4) (.c (.int .u64 1))), om 2 5]
def c175_4 : LC := .seq c175_0 (.seq c175_1 .ret)
def c175 : LF := .mk 6 c175_4 [.tmp 2]
theorem low175 : al Tryz.prog Tryz.f175 = some c175 := by kernel_rfl
def c176_0 : LC := .ops [om 4 1]
def c176_1 : LC := .ops [om 5 0, kc 6 134 [.t 5, .c (.int .u64 1)]]
def c176_7 : LC := .ops [om 7 0, kc 8 134 [.t 7, .c (.int .u64 0)]]
def c176_8 : LC := .seq (.seq c176_0 (.cond (.t 4) (.seq c176_1 .ret) .skip)) c176_7
def c176 : LF := .mk 9 c176_8 []
theorem low176 : al Tryz.prog Tryz.f176 = some c176 := by kernel_rfl
def c177_0 : LC := .ops [oo 2 (.box (.t 0))]
def c177_1 : LC := .ops [ol 4 2, om 5 1, oo 6 (.mkfn 180 [.t 2]), kc 7 151 [.t 4, .t 5, .c (.int .i64 400), .t 6]]
def c177_2 : LC := .seq c177_0 c177_1
def c177 : LF := .mk 8 c177_2 []
theorem low177 : al Tryz.prog Tryz.f177 = some c177 := by kernel_rfl
def c178 : LF := iN 2 16 (some 2) [.int .i64 0, .int .i64 0]
theorem low178 : al Tryz.prog Tryz.f178 = some c178 := by kernel_rfl
def c179_0 : LC := .opsX [(ol 3 1, []), (om 4 0, []), (kk 5 4, []), (oa 6 0 5, []), (kx 7 170 [.t 3, .t 6, .c (.int .i64 (-5)), .c (.int .i64 5)], [])]
def c179_1 : LC := .opsX [(ol 8 1, []), (om 9 0, []), (kk 10 9, []), (oa 11 1 10, []), (kx 12 131 [.t 8, .t 11, .c (.int .u64 6)], [])]
def c179_2 : LC := .seq c179_0 c179_1
def c179 : LF := .mk 13 c179_2 []
theorem low179 : al Tryz.prog Tryz.f179 = some c179 := by kernel_rfl
def c180_0 : LC := .ops [ol 3 1, om 4 0, kc 5 170 [.t 3, .t 4, .c (.int .i64 (-400)), .c (.int .i64 400)]]
def c180 : LF := .mk 6 c180_0 []
theorem low180 : al Tryz.prog Tryz.f180 = some c180 := by kernel_rfl
end Go.Proofs.YtapennlmboabeaaGreat
