import Derived.Test.YtggchhmgeafoaaaVi25
import Derived.Test.YtggchhmgeafoaaaProg
set_option linter.unusedVariables false
set_option linter.unusedSimpArgs false
set_option linter.unnecessarySimpa false
namespace Go.Proofs.Ytggchhmgeafoaaa
open Go Go.Vi
set_option maxRecDepth 100000
def c3_0 : LC := .ops [oo 3 (.box (.t 1)), oo 4 (.mov (.c (.bool false)))]
def c3_1 : LC := .ops [om 7 0, on 8 7, oo 9 (.bin .gtr (.t 8) (.c (.int .i64 40)))]
def c3_2 : LC := .ops [kc 10 8 [], om 4 10]
def c3_8 : LC := .opsX [(om 11 0, []), (kx 12 11 [.c .nilp, .t 11], [3]), (oo 13 (.load (some 2) (.t 3)), []), (kx 14 10 [.t 12, .t 13], [3]), (oo 15 (.load (some 2) (.t 3)), []), (kx 16 10 [.t 14, .t 15], []), (kx 17 9 [.t 16], []), (om 5 17, [])]
def c3_9 : LC := .opsX [(om 18 0, []), (kx 19 11 [.c .nilp, .t 18], [3]), (oo 20 (.load (some 2) (.t 3)), []), (oo 21 (.slit 2 [.t 20]), []), (kx 22 11 [.c .nilp, .t 21], []), (oo 23 (.slit 1 [.t 19, .t 22]), []), (kx 24 12 [.t 23], []), (kx 25 9 [.t 24], []), (om 6 25, [])]
def c3_10 : LC := .ops [kc 26 8 [], om 27 26, gm 28 27 true 5, gm 29 27 true 6, gk 30 27 true 13 [.t 28, .t 29], pf 31 27 30, om 4 31]
def c3_16 : LC := .seq c3_0 (.seq (.seq c3_1 (.cond (.t 9) (.seq c3_2 .ret) .skip)) (.seq c3_8 (.seq c3_9 (.seq c3_10 .ret))))
def c3 : LF := .mk 32 c3_16 [.tmp 4]
theorem low3 : lowFn Try.prog Try.f3 = some c3 := by kernel_rfl
def c8_0 : LC := .ops [oo 0 (.mov (.c (.bool false)))]
def c8_1 : LC := .ops [oo 2 (.build [.int .i64 0, .int .i64 0] [(0, 1, .c (.int .i64 2)), (1, 1, .c (.int .i64 4))]), oo 3 (.slit 2 [.t 2]), kc 4 11 [.c .nilp, .t 3], oo 5 (.build [.int .i64 0, .int .i64 0] [(0, 1, .c (.int .i64 0)), (1, 1, .c (.int .i64 9))]), kc 6 10 [.t 4, .t 5], kc 7 9 [.t 6], om 1 7]
def c8_2 : LC := .ops [om 8 1, on 9 8, oo 10 (.bin .eql (.t 9) (.c (.int .i64 2))), om 11 10, gm 12 11 true 1, og 13 11 true (.iaddr 2 (.t 12) (.c (.int .i64 0))), og 14 11 true (.load (some 2) (.t 13)), og 15 11 true (.build [.int .i64 0, .int .i64 0] [(0, 1, .c (.int .i64 0)), (1, 1, .c (.int .i64 2))]), og 16 11 true (.eq (.row [.int, .int]) false (.t 14) (.t 15)), pf 17 11 16, om 18 17, gm 19 18 true 1, og 20 18 true (.iaddr 2 (.t 19) (.c (.int .i64 1))), og 21 18 true (.load (some 2) (.t 20)), og 22 18 true (.build [.int .i64 0, .int .i64 0] [(0, 1, .c (.int .i64 4)), (1, 1, .c (.int .i64 9))]), og 23 18 true (.eq (.row [.int, .int]) false (.t 21) (.t 22)), pf 24 18 23, om 0 24]
def c8_6 : LC := .seq c8_0 (.seq c8_1 (.seq c8_2 .ret))
def c8 : LF := .mk 25 c8_6 [.tmp 0]
theorem low8 : lowFn Try.prog Try.f8 = some c8 := by kernel_rfl
def c9_0 : LC := .ops [oo 2 (.mov (.c (.list (some true) true [])))]
def c9_1 : LC := .ops [oo 3 (.mov (.c (.list (some true) true [])))]
def c9_2 : LC := .ops [om 7 0, kc 8 18 [.t 7], om 6 8, oo 9 (.ext 0 (.t 6)), oo 10 (.ext 1 (.t 6)), oo 4 (.alloc [.int .i64 0, .int .i64 0]), .mk none none (.store 2 (.t 4) (.t 9)), om 5 10]
def c9_3 : LC := .ops [om 11 5, oo 12 (.un .not (.t 11))]
def c9_4 : LC := .ops [om 13 3, om 2 13]
def c9_10 : LC := .ops [om 14 3, oo 15 (.load (some 2) (.t 4)), oo 16 (.slit 2 [.t 15]), oo 17 (.app 2 16 (.t 14) (.t 16)), om 3 17]
def c9_17 : LC := .seq c9_0 (.seq c9_1 (.block 0 (.loop (.block 1 (.seq c9_2 (.seq (.seq c9_3 (.cond (.t 12) (.seq c9_4 .ret) .skip)) c9_10))))))
def c9 : LF := .mk 18 c9_17 [.tmp 2]
theorem low9 : lowFn Try.prog Try.f9 = some c9 := by kernel_rfl
def c10_0 : LC := .ops [oo 3 (.box (.t 1)), oo 4 (.mov (.c .nilp))]
def c10_1 : LC := .ops [om 6 0, oo 7 (.slit 1 [.t 6]), kc 8 22 [.c (.int .i64 3), .t 7], om 5 8]
def c10_2 : LC := .ops [om 9 5, oo 10 (.load (some 2) (.t 3)), kk 11 9, oa 12 4 11, .mk none none (.store 2 (.t 12) (.t 10))]
def c10_3 : LC := .ops [om 13 5, om 4 13]
def c10_8 : LC := .seq c10_0 (.seq c10_1 (.seq c10_2 (.seq c10_3 .ret)))
def c10 : LF := .mk 14 c10_8 [.tmp 4]
theorem low10 : lowFn Try.prog Try.f10 = some c10 := by kernel_rfl
def c11_0 : LC := .ops [oo 4 (.mov (.c .nilp))]
def c11_1 : LC := .ops [oo 6 (.call (.c (.fn 22 [])) [.c (.int .i64 0), .c (.list (some true) true [])]), om 5 6]
def c11_2 : LC := .ops [om 7 5, om 8 5, om 9 0, om 10 1, kc 11 23 [.t 10], kk 12 7, oa 13 1 12, .mk none none (.store 1 (.t 13) (.t 9)), kk 14 8, oa 15 2 14, .mk none none (.store 1 (.t 15) (.t 11))]
def c11_3 : LC := .ops [om 16 5, om 4 16]
def c11_8 : LC := .seq c11_0 (.seq c11_1 (.seq c11_2 (.seq c11_3 .ret)))
def c11 : LF := .mk 17 c11_8 [.tmp 4]
theorem low11 : lowFn Try.prog Try.f11 = some c11 := by kernel_rfl
def c12_0 : LC := .ops [oo 2 (.mov (.c .nilp))]
def c12_1 : LC := .ops [om 3 0, kc 4 22 [.c (.int .i64 2), .t 3], om 2 4]
def c12_4 : LC := .seq c12_0 (.seq c12_1 .ret)
def c12 : LF := .mk 5 c12_4 [.tmp 2]
theorem low12 : lowFn Try.prog Try.f12 = some c12 := by kernel_rfl
def c13_0 : LC := .ops [oo 4 (.mov (.c (.bool false)))]
def c13_1 : LC := .ops [om 6 0, on 7 6, om 8 1, on 9 8, kb 10 .neq 7 9]
def c13_2 : LC := .ops [oo 4 (.mov (.c (.bool false)))]
def c13_8 : LC := .ops [om 11 0, on 12 11, oo 13 (.mov (.c (.int .i64 0)))]
def c13_9 : LC := .ops [kb 14 .lss 13 12]
def c13_12 : LC := .ops [om 15 13, om 5 15]
def c13_13 : LC := .opsX [(om 16 0, []), (om 17 5, []), (oo 18 (.iaddr 2 (.t 16) (.t 17)), []), (oo 19 (.load (some 2) (.t 18)), []), (om 20 1, []), (om 21 5, []), (oo 22 (.iaddr 2 (.t 20) (.t 21)), []), (oo 23 (.load (some 2) (.t 22)), []), (oo 24 (.eq (.row [.int, .int]) true (.t 19) (.t 23)), [])]
def c13_14 : LC := .ops [oo 4 (.mov (.c (.bool false)))]
def c13_22 : LC := .ops [oo 25 (.bin .add (.t 13) (.c (.int .i64 1))), om 13 25]
def c13_29 : LC := .ops [oo 4 (.mov (.c (.bool true)))]
def c13_34 : LC := .seq c13_0 (.seq (.seq c13_1 (.cond (.t 10) (.seq c13_2 .ret) .skip)) (.seq (.seq c13_8 (.block 0 (.loop (.seq c13_9 (.seq (.cond (.t 14) .skip (.exit 0)) (.seq (.block 1 (.seq c13_12 (.seq c13_13 (.cond (.t 24) (.seq c13_14 .ret) .skip)))) c13_22)))))) (.seq c13_29 .ret)))
def c13 : LF := .mk 26 c13_34 [.tmp 4]
theorem low13 : lowFn Try.prog Try.f13 = some c13 := by kernel_rfl
def c16_0 : LC := .ops [om 4 0, oo 5 (.eq .ptr false (.t 4) (.c .nilp)), om 6 5, gm 7 6 false 1, gm 8 6 false 0, og 9 6 false (.chk (.t 8)), ga 10 6 false 11 9, gl 11 6 false 10, og 12 6 false (.bin .leq (.t 7) (.t 11)), pt 13 6 12]
def c16_5 : LC := .ops [om 14 0, om 15 1, kk 16 14, oa 17 11 16, .mk none none (.store 1 (.t 17) (.t 15))]
def c16_6 : LC := .ops [om 18 0, kk 19 18, oa 20 10 19, ol 21 20]
def c16_7 : LC := .ops [om 22 0, om 23 0, kk 24 23, oa 25 8 24, oa 26 0 25, ol 27 26, om 28 1, oo 29 (.mx (.t 27) (.t 28)), kk 30 22, oa 31 8 30, oa 32 0 31, .mk none none (.store 1 (.t 32) (.t 29))]
def c16_8 : LC := .opsX [(om 33 0, []), (om 34 0, []), (kk 35 34, []), (oa 36 8 35, []), (oa 37 0 36, []), (ol 38 37, []), (om 39 0, []), (kk 40 39, []), (oa 41 8 40, []), (oa 42 1 41, []), (ol 43 42, []), (kb 44 .lss 38 43, []), (kk 45 33, []), (oa 46 10 45, []), (.mk none none (.store 1 (.t 46) (.t 44)), [])]
def c16_14 : LC := .seq (.seq c16_0 (.cond (.t 13) .ret .skip)) (.seq c16_5 (.seq c16_6 (.cond (.t 21) (.seq c16_7 c16_8) .skip)))
def c16 : LF := .mk 47 c16_14 []
theorem low16 : lowFn Try.prog Try.f16 = some c16 := by kernel_rfl
def c18_0 : LC := .ops [oo 2 (.alloc [.int .i64 0, .int .i64 0]), oo 3 (.mov (.c (.bool false)))]
def c18_1 : LC := .ops [om 7 0, kc 8 24 [.t 7], om 6 8, oo 9 (.ext 0 (.t 6)), oo 10 (.ext 1 (.t 6)), oo 4 (.alloc [.int .i64 0, .int .i64 0]), .mk none none (.store 2 (.t 4) (.t 9)), om 5 10]
def c18_2 : LC := .ops [om 11 5]
def c18_3 : LC := .ops [om 12 0, kk 13 12, oa 14 10 13, .mk none none (.store 1 (.t 14) (.c (.bool false)))]
def c18_7 : LC := .ops [oo 15 (.load (some 2) (.t 4)), om 16 5, .mk none none (.store 2 (.t 2) (.t 15)), om 3 16]
def c18_12 : LC := .seq c18_0 (.seq c18_1 (.seq (.seq c18_2 (.cond (.t 11) c18_3 .skip)) (.seq c18_7 .ret)))
def c18 : LF := .mk 17 c18_12 [.cell 2 (some 2), .tmp 3]
theorem low18 : lowFn Try.prog Try.f18 = some c18 := by kernel_rfl
def c22_0 : LC := .ops [oo 4 (.mov (.c .nilp))]
def c22_1 : LC := .ops [om 5 0, om 6 1, oo 7 (.build [.int .i64 0, .nilp, .list (some true) true [], .list (some true) true [], .int .i64 0, .int .i64 0, .int .i64 0, .int .i64 0, .int .i64 0, .int .i64 0, .bool false, .int .i64 0] [(0, 1, .t 5), (3, 1, .t 6), (11, 1, .c (.int .i64 (-9223372036854775808)))]), oo 8 (.box (.t 7)), om 4 8]
def c22_4 : LC := .seq c22_0 (.seq c22_1 .ret)
def c22 : LF := .mk 9 c22_4 [.tmp 4]
theorem low22 : lowFn Try.prog Try.f22 = some c22 := by kernel_rfl
def c23_0 : LC := .ops [oo 2 (.mov (.c (.list (some true) true [])))]
def c23_1 : LC := .ops [om 8 0, kc 9 33 [.t 8], oo 10 (.call (.c (.fn 32 [])) [.t 9, .c (.fn 34 [])]), om 3 10]
def c23_2 : LC := .ops [om 11 3, oo 12 (.call (.c (.fn 35 [])) [.t 11, .c (.fn 36 [])])]
def c23_3 : LC := .ops [om 13 3, oo 14 (.slice false 2 (.t 13) none (some (.c (.int .i64 0)))), om 4 14]
def c23_4 : LC := .ops [om 15 3, on 16 15, oo 17 (.mov (.c (.int .i64 0)))]
def c23_5 : LC := .ops [kb 18 .lss 17 16]
def c23_8 : LC := .ops [oo 19 (.iaddr 2 (.t 15) (.t 17)), oo 20 (.load (some 2) (.t 19)), oo 6 (.alloc [.int .i64 0, .int .i64 0]), .mk none none (.store 2 (.t 6) (.t 20))]
def c23_9 : LC := .ops [om 21 4, on 22 21, om 7 22]
def c23_10 : LC := .opsX [(om 23 7, []), (oo 24 (.bin .gtr (.t 23) (.c (.int .i64 0))), []), (om 25 24, []), (ga 26 25 true 0 6, []), (gl 27 25 true 26, []), (gm 28 25 true 4, []), (gm 29 25 true 7, []), (og 30 25 true (.bin .sub (.t 29) (.c (.int .i64 1))), []), (og 31 25 true (.iaddr 2 (.t 28) (.t 30)), []), (ga 32 25 true 1 31, []), (gl 33 25 true 32, []), (og 34 25 true (.bin .leq (.t 27) (.t 33)), []), (pf 35 25 34, [])]
def c23_11 : LC := .opsX [(om 36 4, []), (om 37 7, []), (oo 38 (.bin .sub (.t 37) (.c (.int .i64 1))), []), (om 39 4, []), (om 40 7, []), (oo 41 (.bin .sub (.t 40) (.c (.int .i64 1))), []), (oo 42 (.iaddr 2 (.t 39) (.t 41)), []), (oa 43 1 42, []), (ol 44 43, []), (oa 45 1 6, []), (ol 46 45, []), (oo 47 (.mx (.t 44) (.t 46)), []), (oo 48 (.iaddr 2 (.t 36) (.t 38)), []), (oa 49 1 48, []), (.mk none none (.store 1 (.t 49) (.t 47)), [])]
def c23_17 : LC := .ops [om 50 4, oo 51 (.load (some 2) (.t 6)), oo 52 (.slit 2 [.t 51]), oo 53 (.app 2 16 (.t 50) (.t 52)), om 4 53]
def c23_21 : LC := .ops [oo 54 (.bin .add (.t 17) (.c (.int .i64 1))), om 17 54]
def c23_28 : LC := .ops [om 55 4, om 2 55]
def c23_35 : LC := .seq c23_0 (.seq c23_1 (.seq c23_2 (.seq c23_3 (.seq (.seq c23_4 (.block 0 (.loop (.seq c23_5 (.seq (.cond (.t 18) .skip (.exit 0)) (.seq (.block 1 (.seq c23_8 (.seq (.seq c23_9 (.seq c23_10 (.cond (.t 35) (.seq c23_11 (.exit 1)) .skip))) c23_17))) c23_21)))))) (.seq c23_28 .ret)))))
def c23 : LF := .mk 56 c23_35 [.tmp 2]
theorem low23 : lowFn Try.prog Try.f23 = some c23 := by kernel_rfl
def c24_0 : LC := .ops [oo 2 (.alloc [.int .i64 0, .int .i64 0]), oo 3 (.mov (.c (.bool false)))]
def c24_1 : LC := .ops [om 6 0, oo 7 (.eq .ptr false (.t 6) (.c .nilp))]
def c24_2 : LC := .ops [oo 8 (.build [.int .i64 0, .int .i64 0] []), .mk none none (.store 2 (.t 2) (.t 8)), oo 3 (.mov (.c (.bool false)))]
def c24_8 : LC := .ops [om 9 0, kk 10 9, oa 11 10 10, ol 12 11, oo 13 (.un .not (.t 12))]
def c24_12 : LC := .ops [om 15 0, kc 16 38 [.t 15], om 14 16, oo 17 (.ext 0 (.t 14)), oo 18 (.ext 1 (.t 14)), oo 4 (.alloc [.int .i64 0, .int .i64 0]), .mk none none (.store 2 (.t 4) (.t 17)), om 5 18]
def c24_13 : LC := .ops [om 19 5, oo 20 (.un .not (.t 19))]
def c24_14 : LC := .ops [oo 21 (.build [.int .i64 0, .int .i64 0] []), .mk none none (.store 2 (.t 2) (.t 21)), oo 3 (.mov (.c (.bool false)))]
def c24_20 : LC := .opsX [(oa 22 0 4, []), (ol 23 22, []), (om 24 0, []), (kk 25 24, []), (oa 26 11 25, []), (ol 27 26, []), (oo 28 (.mx (.t 23) (.t 27)), []), (oa 29 0 4, []), (.mk none none (.store 1 (.t 29) (.t 28)), [])]
def c24_21 : LC := .opsX [(om 30 0, []), (om 31 0, []), (oo 32 (.load (some 2) (.t 4)), []), (oa 33 0 4, []), (ol 34 33, []), (oa 35 1 4, []), (ol 36 35, []), (kb 37 .lss 34 36, []), (kk 38 30, []), (oa 39 8 38, []), (.mk none none (.store 2 (.t 39) (.t 32)), [33, 35]), (kk 40 31, []), (oa 41 10 40, []), (.mk none none (.store 1 (.t 41) (.t 37)), [])]
def c24_29 : LC := .ops [om 42 0, kk 43 42, oa 44 8 43, oo 45 (.load (some 2) (.t 44)), .mk none none (.store 2 (.t 2) (.t 45)), oo 3 (.mov (.c (.bool true)))]
def c24_34 : LC := .seq c24_0 (.seq (.seq c24_1 (.cond (.t 7) (.seq c24_2 .ret) .skip)) (.seq (.block 0 (.loop (.seq (.seq c24_8 (.cond (.t 13) .skip (.exit 0))) (.block 1 (.seq c24_12 (.seq (.seq c24_13 (.cond (.t 20) (.seq c24_14 .ret) .skip)) (.seq c24_20 c24_21))))))) (.seq c24_29 .ret)))
def c24 : LF := .mk 46 c24_34 [.cell 2 (some 2), .tmp 3]
theorem low24 : lowFn Try.prog Try.f24 = some c24 := by kernel_rfl
def c32_0 : LC := .ops [oo 4 (.mov (.c (.list (some true) true [])))]
def c32_1 : LC := .ops [om 8 0, om 9 1, kc 10 43 [.t 8, .t 9], om 5 10]
def c32_2 : LC := .ops [om 11 5, oo 12 (.bin .eql (.t 11) (.c (.int .i64 (-1))))]
def c32_3 : LC := .ops [om 13 0, om 4 13]
def c32_9 : LC := .ops [om 14 5, oo 15 (.bin .add (.t 14) (.c (.int .i64 1))), om 6 15]
def c32_10 : LC := .ops [om 16 6, om 17 0, on 18 17, kb 19 .lss 16 18]
def c32_14 : LC := .ops [om 22 0, om 23 6, oo 24 (.iaddr 2 (.t 22) (.t 23)), oo 25 (.load (some 2) (.t 24)), oo 7 (.alloc [.int .i64 0, .int .i64 0]), .mk none none (.store 2 (.t 7) (.t 25))]
def c32_15 : LC := .ops [om 26 1, oo 27 (.load (some 2) (.t 7)), oo 28 (.call (.t 26) [.t 27]), oo 29 (.un .not (.t 28))]
def c32_16 : LC := .ops [om 30 0, om 31 5, oo 32 (.load (some 2) (.t 7)), oo 33 (.iaddr 2 (.t 30) (.t 31)), .mk none none (.store 2 (.t 33) (.t 32))]
def c32_17 : LC := .ops [om 34 5, oo 35 (.bin .add (.t 34) (.c (.int .i64 1))), om 5 35]
def c32_24 : LC := .ops [om 20 6, oo 21 (.bin .add (.t 20) (.c (.int .i64 1))), om 6 21]
def c32_30 : LC := .ops [om 36 0, om 37 5, oo 38 (.slice false 2 (.t 36) (some (.t 37)) none), .mk none none (.clear [.int .i64 0, .int .i64 0] (.t 38))]
def c32_31 : LC := .ops [om 39 0, om 40 5, oo 41 (.slice false 2 (.t 39) none (some (.t 40))), om 4 41]
def c32_38 : LC := .seq c32_0 (.seq c32_1 (.seq (.seq c32_2 (.cond (.t 12) (.seq c32_3 .ret) .skip)) (.seq (.seq c32_9 (.block 0 (.loop (.seq (.seq c32_10 (.cond (.t 19) .skip (.exit 0))) (.seq (.block 1 (.seq c32_14 (.seq c32_15 (.cond (.t 29) (.seq c32_16 c32_17) .skip)))) c32_24))))) (.seq c32_30 (.seq c32_31 .ret)))))
def c32 : LF := .mk 42 c32_38 [.tmp 4]
theorem low32 : lowFn Try.prog Try.f32 = some c32 := by kernel_rfl
def c33_0 : LC := .ops [oo 2 (.mov (.c (.list (some true) true [])))]
def c33_1 : LC := .ops [om 3 0, oo 4 (.eq .slice false (.t 3) (.c (.list (some true) true [])))]
def c33_2 : LC := .ops [oo 2 (.mov (.c (.list (some true) true [])))]
def c33_8 : LC := .ops [oo 5 (.slit 2 []), om 6 0, oo 7 (.app 2 16 (.t 5) (.t 6)), om 2 7]
def c33_12 : LC := .seq c33_0 (.seq (.seq c33_1 (.cond (.t 4) (.seq c33_2 .ret) .skip)) (.seq c33_8 .ret))
def c33 : LF := .mk 8 c33_12 [.tmp 2]
theorem low33 : lowFn Try.prog Try.f33 = some c33 := by kernel_rfl
def c34_0 : LC := .ops [oo 1 (.box (.t 0)), oo 2 (.mov (.c (.bool false)))]
def c34_1 : LC := .ops [oa 3 0 1, ol 4 3, oa 5 1 1, ol 6 5, kb 7 .geq 4 6, om 2 7]
def c34_4 : LC := .seq c34_0 (.seq c34_1 .ret)
def c34 : LF := .mk 8 c34_4 [.tmp 2]
theorem low34 : lowFn Try.prog Try.f34 = some c34 := by kernel_rfl
def c38_0 : LC := .ops [oo 2 (.alloc [.int .i64 0, .int .i64 0]), oo 3 (.mov (.c (.bool false)))]
def c38_1 : LC := .ops [om 4 0, kk 5 4, oa 6 0 5, ol 7 6]
def c38_2 : LC := .ops [oo 9 (.bin .eql (.t 7) (.c (.int .i64 0))), om 8 9]
def c38_3 : LC := .ops [om 10 0, kc 11 47 [.t 10], oo 12 (.ext 0 (.t 11)), oo 13 (.ext 1 (.t 11)), .mk none none (.store 2 (.t 2) (.t 12)), om 3 13]
def c38_6 : LC := .ops [oo 15 (.bin .eql (.t 7) (.c (.int .i64 1))), om 14 15]
def c38_7 : LC := .ops [om 16 0, kc 17 48 [.t 16], oo 18 (.ext 0 (.t 17)), oo 19 (.ext 1 (.t 17)), .mk none none (.store 2 (.t 2) (.t 18)), om 3 19]
def c38_10 : LC := .ops [oo 21 (.bin .eql (.t 7) (.c (.int .i64 2))), om 20 21]
def c38_11 : LC := .ops [om 22 0, kc 23 49 [.t 22], oo 24 (.ext 0 (.t 23)), oo 25 (.ext 1 (.t 23)), .mk none none (.store 2 (.t 2) (.t 24)), om 3 25]
def c38_14 : LC := .ops [oo 27 (.bin .eql (.t 7) (.c (.int .i64 3))), om 26 27]
def c38_15 : LC := .ops [om 28 0, kc 29 50 [.t 28], oo 30 (.ext 0 (.t 29)), oo 31 (.ext 1 (.t 29)), .mk none none (.store 2 (.t 2) (.t 30)), om 3 31]
def c38_18 : LC := .ops [oo 33 (.bin .eql (.t 7) (.c (.int .i64 4))), om 32 33]
def c38_19 : LC := .ops [om 34 0, kc 35 51 [.t 34], oo 36 (.ext 0 (.t 35)), oo 37 (.ext 1 (.t 35)), .mk none none (.store 2 (.t 2) (.t 36)), om 3 37]
def c38_35 : LC := .ops [om 38 0, kc 39 52 [.t 38], oo 40 (.ext 0 (.t 39)), oo 41 (.ext 1 (.t 39)), .mk none none (.store 2 (.t 2) (.t 40)), om 3 41]
def c38_39 : LC := .seq c38_0 (.seq (.seq c38_1 (.block 0 (.seq c38_2 (.cond (.t 8) (.seq c38_3 .ret) (.seq c38_6 (.cond (.t 14) (.seq c38_7 .ret) (.seq c38_10 (.cond (.t 20) (.seq c38_11 .ret) (.seq c38_14 (.cond (.t 26) (.seq c38_15 .ret) (.seq c38_18 (.cond (.t 32) (.seq c38_19 .ret) .skip)))))))))))) (.seq c38_35 .ret))
def c38 : LF := .mk 42 c38_39 [.cell 2 (some 2), .tmp 3]
theorem low38 : lowFn Try.prog Try.f38 = some c38 := by kernel_rfl
def c43_0 : LC := .ops [oo 4 (.mov (.c (.int .i64 0)))]
def c43_1 : LC := .ops [om 6 0, on 7 6, oo 8 (.mov (.c (.int .i64 0)))]
def c43_2 : LC := .ops [kb 9 .lss 8 7]
def c43_5 : LC := .ops [om 10 8, om 5 10]
def c43_6 : LC := .ops [om 11 1, om 12 0, om 13 5, oo 14 (.iaddr 2 (.t 12) (.t 13)), oo 15 (.load (some 2) (.t 14)), oo 16 (.call (.t 11) [.t 15])]
def c43_7 : LC := .ops [om 17 5, om 4 17]
def c43_15 : LC := .ops [oo 18 (.bin .add (.t 8) (.c (.int .i64 1))), om 8 18]
def c43_22 : LC := .ops [oo 4 (.mov (.c (.int .i64 (-1))))]
def c43_26 : LC := .seq c43_0 (.seq (.seq c43_1 (.block 0 (.loop (.seq c43_2 (.seq (.cond (.t 9) .skip (.exit 0)) (.seq (.block 1 (.seq c43_5 (.seq c43_6 (.cond (.t 16) (.seq c43_7 .ret) .skip)))) c43_15)))))) (.seq c43_22 .ret))
def c43 : LF := .mk 19 c43_26 [.tmp 4]
theorem low43 : lowFn Try.prog Try.f43 = some c43 := by kernel_rfl
def c47_0 : LC := .ops [oo 2 (.alloc [.int .i64 0, .int .i64 0]), oo 3 (.mov (.c (.bool false)))]
def c47_1 : LC := .ops [om 5 0, kk 6 5, oa 7 1 6, ol 8 7, oo 9 (.eq .ptr true (.t 8) (.c .nilp)), om 10 9, gm 11 10 true 0, og 12 10 true (.chk (.t 11)), ga 13 10 true 2 12, gl 14 10 true 13, og 15 10 true (.eq .slice true (.t 14) (.c (.list (some true) true []))), pf 16 10 15]
def c47_2 : LC := .ops [om 17 0, kk 18 17, oa 19 1 18, ol 20 19, kk 21 20, oa 22 0 21, ol 23 22, oo 24 (.bin .add (.t 23) (.c (.int .i64 1))), kk 25 20, oa 26 0 25, .mk none none (.store 1 (.t 26) (.t 24))]
def c47_6 : LC := .ops [om 27 0, kk 28 27, oa 29 2 28, ol 30 29, on 31 30, oo 32 (.bin .eql (.t 31) (.c (.int .i64 0)))]
def c47_7 : LC := .ops [om 33 0, kk 34 33, oa 35 2 34, .mk none none (.store 1 (.t 35) (.c (.list (some true) true [])))]
def c47_8 : LC := .ops [oo 36 (.build [.int .i64 0, .int .i64 0] []), .mk none none (.store 2 (.t 2) (.t 36)), oo 3 (.mov (.c (.bool false)))]
def c47_15 : LC := .ops [om 37 0, kk 38 37, oa 39 2 38, ol 40 39, oo 41 (.iaddr 2 (.t 40) (.c (.int .i64 0))), oo 42 (.load (some 2) (.t 41)), oo 4 (.alloc [.int .i64 0, .int .i64 0]), .mk none none (.store 2 (.t 4) (.t 42))]
def c47_16 : LC := .ops [om 43 0, om 44 0, kk 45 44, oa 46 2 45, ol 47 46, oo 48 (.slice false 2 (.t 47) (some (.c (.int .i64 1))) none), kk 49 43, oa 50 2 49, .mk none none (.store 1 (.t 50) (.t 48))]
def c47_17 : LC := .ops [oo 51 (.load (some 2) (.t 4)), .mk none none (.store 2 (.t 2) (.t 51)), oo 3 (.mov (.c (.bool true)))]
def c47_24 : LC := .seq c47_0 (.seq (.seq c47_1 (.cond (.t 16) c47_2 .skip)) (.seq (.seq c47_6 (.cond (.t 32) (.seq c47_7 (.seq c47_8 .ret)) .skip)) (.seq c47_15 (.seq c47_16 (.seq c47_17 .ret)))))
def c47 : LF := .mk 52 c47_24 [.cell 2 (some 2), .tmp 3]
theorem low47 : lowFn Try.prog Try.f47 = some c47 := by kernel_rfl
def c49_0 : LC := .ops [oo 2 (.alloc [.int .i64 0, .int .i64 0]), oo 3 (.mov (.c (.bool false)))]
def c49_1 : LC := .ops [om 12 0, kk 13 12, oa 14 3 13, ol 15 14, on 16 15, oo 17 (.bin .gtr (.t 16) (.c (.int .i64 0)))]
def c49_5 : LC := .ops [oo 18 (.build [.int .i64 0, .int .i64 0] [(0, 1, .c (.int .i64 (-9223372036854775808))), (1, 1, .c (.int .i64 9223372036854775807))]), oo 4 (.alloc [.int .i64 0, .int .i64 0]), .mk none none (.store 2 (.t 4) (.t 18))]
def c49_6 : LC := .ops [om 19 0, kk 20 19, oa 21 3 20, ol 22 21, on 23 22, oo 24 (.mov (.c (.int .i64 0)))]
def c49_7 : LC := .ops [kb 25 .lss 24 23]
def c49_10 : LC := .ops [oo 26 (.iaddr 1 (.t 22) (.t 24)), ol 27 26, om 6 27]
def c49_11 : LC := .ops [om 29 6, kc 30 24 [.t 29], om 28 30, oo 31 (.ext 0 (.t 28)), oo 32 (.ext 1 (.t 28)), oo 7 (.alloc [.int .i64 0, .int .i64 0]), .mk none none (.store 2 (.t 7) (.t 31)), om 8 32]
def c49_12 : LC := .ops [om 33 8, oo 34 (.un .not (.t 33))]
def c49_13 : LC := .ops [oo 35 (.build [.int .i64 0, .int .i64 0] []), .mk none none (.store 2 (.t 2) (.t 35)), oo 3 (.mov (.c (.bool false)))]
def c49_19 : LC := .ops [oa 36 0 4, ol 37 36, oa 38 0 7, ol 39 38, oo 40 (.mx (.t 37) (.t 39)), oa 41 1 4, ol 42 41, oa 43 1 7, ol 44 43, oo 45 (.mn (.t 42) (.t 44)), oo 46 (.build [.int .i64 0, .int .i64 0] [(0, 1, .t 40), (1, 1, .t 45)]), .mk none none (.store 2 (.t 4) (.t 46))]
def c49_24 : LC := .ops [oo 47 (.bin .add (.t 24) (.c (.int .i64 1))), om 24 47]
def c49_31 : LC := .ops [oa 48 1 4, ol 49 48, oa 50 0 4, ol 51 50, oo 52 (.mx (.t 49) (.t 51)), om 9 52]
def c49_32 : LC := .ops [oa 53 0 4, ol 54 53, oa 55 1 4, ol 56 55, kb 57 .lss 54 56]
def c49_33 : LC := .ops [oa 58 1 4, ol 59 58, om 9 59]
def c49_37 : LC := .ops [om 60 0, kk 61 60, oa 62 3 61, ol 63 62, on 64 63, oo 65 (.mov (.c (.int .i64 0)))]
def c49_38 : LC := .ops [kb 66 .lss 65 64]
def c49_41 : LC := .ops [oo 67 (.iaddr 1 (.t 63) (.t 65)), ol 68 67, om 11 68]
def c49_42 : LC := .ops [om 69 11, om 70 9, kc 71 16 [.t 69, .t 70]]
def c49_45 : LC := .ops [oo 72 (.bin .add (.t 65) (.c (.int .i64 1))), om 65 72]
def c49_52 : LC := .ops [oa 73 0 4, ol 74 73, oa 75 1 4, ol 76 75, kb 77 .lss 74 76]
def c49_53 : LC := .ops [oo 78 (.load (some 2) (.t 4)), .mk none none (.store 2 (.t 2) (.t 78)), oo 3 (.mov (.c (.bool true)))]
def c49_68 : LC := .ops [oo 79 (.build [.int .i64 0, .int .i64 0] []), .mk none none (.store 2 (.t 2) (.t 79)), oo 3 (.mov (.c (.bool false)))]
def c49_72 : LC := .seq c49_0 (.seq (.block 0 (.loop (.seq (.seq c49_1 (.cond (.t 17) .skip (.exit 0))) (.block 1 (.seq c49_5 (.seq (.seq c49_6 (.block 2 (.loop (.seq c49_7 (.seq (.cond (.t 25) .skip (.exit 2)) (.seq (.block 3 (.seq c49_10 (.seq c49_11 (.seq (.seq c49_12 (.cond (.t 34) (.seq c49_13 .ret) .skip)) c49_19)))) c49_24)))))) (.seq c49_31 (.seq (.seq c49_32 (.cond (.t 57) c49_33 .skip)) (.seq (.seq c49_37 (.block 4 (.loop (.seq c49_38 (.seq (.cond (.t 66) .skip (.exit 4)) (.seq (.block 5 (.seq c49_41 c49_42)) c49_45)))))) (.seq c49_52 (.cond (.t 77) (.seq c49_53 .ret) .skip))))))))))) (.seq c49_68 .ret))
def c49 : LF := .mk 80 c49_72 [.cell 2 (some 2), .tmp 3]
theorem low49 : lowFn Try.prog Try.f49 = some c49 := by kernel_rfl
def c50_0 : LC := .ops [oo 2 (.alloc [.int .i64 0, .int .i64 0]), oo 3 (.mov (.c (.bool false)))]
def c50_1 : LC := .ops [om 8 0, kk 9 8, oa 10 3 9, ol 11 10, oo 12 (.iaddr 1 (.t 11) (.c (.int .i64 0))), ol 13 12, om 4 13]
def c50_2 : LC := .opsX [(om 14 0, []), (kk 15 14, []), (oa 16 4 15, []), (oa 17 0 16, []), (ol 18 17, []), (om 19 0, []), (kk 20 19, []), (oa 21 4 20, []), (oa 22 1 21, []), (ol 23 22, []), (kb 24 .lss 18 23, [])]
def c50_6 : LC := .ops [om 25 0, kk 26 25, oa 27 4 26, oa 28 0 27, ol 29 28, om 5 29]
def c50_7 : LC := .ops [om 30 4, om 31 5, kc 32 16 [.t 30, .t 31]]
def c50_8 : LC := .ops [om 34 4, kc 35 24 [.t 34], om 33 35, oo 36 (.ext 0 (.t 33)), oo 37 (.ext 1 (.t 33)), oo 6 (.alloc [.int .i64 0, .int .i64 0]), .mk none none (.store 2 (.t 6) (.t 36)), om 7 37]
def c50_9 : LC := .opsX [(om 38 7, []), (oo 39 (.un .not (.t 38)), []), (om 40 39, []), (ga 41 40 false 0 6, []), (gl 42 40 false 41, []), (gm 43 40 false 0, []), (og 44 40 false (.chk (.t 43)), []), (ga 45 40 false 4 44, []), (ga 46 40 false 1 45, []), (gl 47 40 false 46, []), (og 48 40 false (.bin .geq (.t 42) (.t 47)), []), (pt 49 40 48, [])]
def c50_10 : LC := .ops [om 50 0, om 51 0, kk 52 51, oa 53 4 52, oa 54 1 53, ol 55 54, kk 56 50, oa 57 4 56, oa 58 0 57, .mk none none (.store 1 (.t 58) (.t 55))]
def c50_11 : LC := .ops [om 59 5, om 60 0, kk 61 60, oa 62 4 61, oa 63 1 62, ol 64 63, oo 65 (.build [.int .i64 0, .int .i64 0] [(0, 1, .t 59), (1, 1, .t 64)]), .mk none none (.store 2 (.t 2) (.t 65)), oo 3 (.mov (.c (.bool true)))]
def c50_18 : LC := .ops [om 66 0, oa 67 1 6, ol 68 67, kk 69 66, oa 70 4 69, oa 71 0 70, .mk none none (.store 1 (.t 71) (.t 68))]
def c50_19 : LC := .ops [om 72 5, oa 73 0 6, ol 74 73, kb 75 .lss 72 74]
def c50_20 : LC := .ops [om 76 5, oa 77 0 6, ol 78 77, oo 79 (.build [.int .i64 0, .int .i64 0] [(0, 1, .t 76), (1, 1, .t 78)]), .mk none none (.store 2 (.t 2) (.t 79)), oo 3 (.mov (.c (.bool true)))]
def c50_35 : LC := .ops [oo 80 (.build [.int .i64 0, .int .i64 0] []), .mk none none (.store 2 (.t 2) (.t 80)), oo 3 (.mov (.c (.bool false)))]
def c50_40 : LC := .seq c50_0 (.seq c50_1 (.seq (.block 0 (.loop (.seq (.seq c50_2 (.cond (.t 24) .skip (.exit 0))) (.block 1 (.seq c50_6 (.seq c50_7 (.seq c50_8 (.seq (.seq c50_9 (.cond (.t 49) (.seq c50_10 (.seq c50_11 .ret)) .skip)) (.seq c50_18 (.seq c50_19 (.cond (.t 75) (.seq c50_20 .ret) .skip))))))))))) (.seq c50_35 .ret)))
def c50 : LF := .mk 81 c50_40 [.cell 2 (some 2), .tmp 3]
theorem low50 : lowFn Try.prog Try.f50 = some c50 := by kernel_rfl
end Go.Proofs.Ytggchhmgeafoaaa
