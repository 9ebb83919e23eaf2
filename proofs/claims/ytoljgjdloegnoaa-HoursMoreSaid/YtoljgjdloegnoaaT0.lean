import Derived.Test.YtoljgjdloegnoaaVi25
import Derived.Test.YtoljgjdloegnoaaProg
set_option linter.unusedVariables false
set_option linter.unusedSimpArgs false
set_option linter.unnecessarySimpa false
namespace Go.Proofs.Ytoljgjdloegnoaa
open Go Go.Vi
set_option maxRecDepth 100000
def c6_0 : LC := .ops [oo 5 (.box (.t 0)), oo 6 (.box (.t 1)), oo 7 (.box (.t 2)), oo 10 (.mov (.c (.bool false)))]
def c6_1 : LC := .ops [oo 16 (.load (some 2) (.t 5)), oo 17 (.load (some 2) (.t 6)), kc 18 8 [.t 16, .t 17], om 19 18, og 20 19 false (.load (some 2) (.t 6)), gk 21 19 false 11 [.t 20], og 22 19 false (.un .not (.t 21)), pt 23 19 22]
def c6_2 : LC := .ops [kc 24 9 [], om 10 24]
def c6_7 : LC := .seq c6_1 (.cond (.t 23) (.seq c6_2 .ret) .skip)
def c6_8 : LC := .opsX [(oo 25 (.slit 3 []), []), (oa 26 0 6, []), (ol 27 26, []), (oo 28 (.app 3 24 (.t 25) (.t 27)), [7, 32]), (oo 29 (.load (some 3) (.t 7)), []), (oo 30 (.slit 3 [.t 29]), []), (oo 31 (.app 3 24 (.t 28) (.t 30)), [32]), (oa 32 1 6, []), (ol 33 32, []), (oo 34 (.build [.list (some true) true [], .list (some true) true []] [(0, 1, .t 31), (1, 1, .t 33)]), []), (oo 11 (.alloc [.list (some true) true [], .list (some true) true []]), [26, 7, 32]), (.mk none none (.store 2 (.t 11) (.t 34)), [])]
def c6_9 : LC := .ops [oo 35 (.load (some 2) (.t 11)), kc 36 11 [.t 35], om 37 36, og 38 37 true (.load (some 2) (.t 5)), og 39 37 true (.load (some 2) (.t 6)), gm 40 37 true 4, gk 41 37 true 16 [.t 38, .t 39, .t 40], pf 42 37 41, om 43 42, og 44 43 true (.load (some 2) (.t 5)), og 45 43 true (.load (some 2) (.t 11)), gm 46 43 true 4, gk 47 43 true 16 [.t 44, .t 45, .t 46], og 48 43 true (.un .not (.t 47)), pf 49 43 48]
def c6_10 : LC := .ops [oo 10 (.mov (.c (.bool false)))]
def c6_15 : LC := .seq c6_9 (.cond (.t 49) (.seq c6_10 .ret) .skip)
def c6_16 : LC := .ops [oa 50 0 6, ol 51 50, oo 52 (.build [.list (some true) true [], .list (some true) true []] [(0, 1, .t 51)]), oo 12 (.alloc [.list (some true) true [], .list (some true) true []]), .mk none none (.store 2 (.t 12) (.t 52))]
def c6_17 : LC := .ops [oo 13 (.mov (.c (.bool false)))]
def c6_18 : LC := .ops [oa 53 1 6, ol 54 53, on 55 54, oo 56 (.mov (.c (.int .i64 0)))]
def c6_19 : LC := .ops [kb 57 .lss 56 55]
def c6_22 : LC := .ops [oo 58 (.iaddr 1 (.t 54) (.t 56)), ol 59 58, om 15 59]
def c6_23 : LC := .ops [om 60 13, oo 61 (.un .not (.t 60)), om 62 61, gm 63 62 true 15, gm 64 62 true 3, og 65 62 true (.bin .gtr (.t 63) (.t 64)), pf 66 62 65]
def c6_24 : LC := .ops [oa 67 1 12, ol 68 67, om 69 3, oo 70 (.slit 1 [.t 69]), oo 71 (.app 1 8 (.t 68) (.t 70)), oa 72 1 12, .mk none none (.store 1 (.t 72) (.t 71))]
def c6_25 : LC := .ops [oo 13 (.mov (.c (.bool true)))]
def c6_30 : LC := .ops [oa 73 1 12, ol 74 73, om 75 15, oo 76 (.slit 1 [.t 75]), oo 77 (.app 1 8 (.t 74) (.t 76)), oa 78 1 12, .mk none none (.store 1 (.t 78) (.t 77))]
def c6_34 : LC := .ops [oo 79 (.bin .add (.t 56) (.c (.int .i64 1))), om 56 79]
def c6_41 : LC := .ops [om 80 13, oo 81 (.un .not (.t 80))]
def c6_42 : LC := .ops [oa 82 1 12, ol 83 82, om 84 3, oo 85 (.slit 1 [.t 84]), oo 86 (.app 1 8 (.t 83) (.t 85)), oa 87 1 12, .mk none none (.store 1 (.t 87) (.t 86))]
def c6_46 : LC := .ops [kc 88 9 [], om 89 88, og 90 89 true (.load (some 2) (.t 12)), gk 91 89 true 11 [.t 90], og 92 89 true (.un .not (.t 91)), gm 93 89 true 92, og 94 93 false (.load (some 2) (.t 5)), og 95 93 false (.load (some 2) (.t 12)), gm 96 93 false 4, gk 97 93 false 16 [.t 94, .t 95, .t 96], og 98 93 false (.un .not (.t 97)), og 99 89 true (.pick (.t 93) (.c (.bool true)) (.t 98)), gm 100 89 true 99, og 101 100 false (.load (some 2) (.t 5)), og 102 100 false (.load (some 2) (.t 6)), gm 103 100 false 4, gk 104 100 false 16 [.t 101, .t 102, .t 103], og 105 89 true (.pick (.t 100) (.c (.bool true)) (.t 104)), pf 106 89 105, om 10 106]
def c6_52 : LC := .seq c6_16 (.seq c6_17 (.seq (.seq c6_18 (.block 0 (.loop (.seq c6_19 (.seq (.cond (.t 57) .skip (.exit 0)) (.seq (.block 1 (.seq c6_22 (.seq (.seq c6_23 (.cond (.t 66) (.seq c6_24 c6_25) .skip)) c6_30))) c6_34)))))) (.seq (.seq c6_41 (.cond (.t 81) c6_42 .skip)) (.seq c6_46 .ret))))
def c6_56 : LC := .seq c6_0 (.seq c6_7 (.seq c6_8 (.seq c6_15 c6_52)))
def c6 : LF := .mk 107 c6_56 [.tmp 10]
theorem low6 : lowFn Try.prog Try.f6 = some c6 := by kernel_rfl
def c8_0 : LC := .ops [oo 2 (.box (.t 0)), oo 3 (.box (.t 1)), oo 4 (.mov (.c (.bool false)))]
def c8_1 : LC := .ops [oa 5 1 2, ol 6 5, on 7 6, oo 8 (.bin .gtr (.t 7) (.c (.int .i64 8))), om 9 8, ga 10 9 false 0 3, gl 11 9 false 10, og 12 9 false (.len false (.t 11)), og 13 9 false (.bin .gtr (.t 12) (.c (.int .i64 20))), pt 14 9 13, om 15 14, ga 16 15 false 1 3, gl 17 15 false 16, og 18 15 false (.len false (.t 17)), og 19 15 false (.bin .gtr (.t 18) (.c (.int .i64 100))), pt 20 15 19, om 4 20]
def c8_4 : LC := .seq c8_0 (.seq c8_1 .ret)
def c8 : LF := .mk 21 c8_4 [.tmp 4]
theorem low8 : lowFn Try.prog Try.f8 = some c8 := by kernel_rfl
def c9_0 : LC := .ops [oo 0 (.mov (.c (.bool false)))]
def c9_1 : LC := .ops [oo 2 (.build [.int .i64 0, .list (some true) true []] []), oo 3 (.build [.int .i64 0, .int .i64 0, .int .i64 0] [(0, 1, .c (.int .i64 31)), (1, 1, .c (.int .i64 540)), (2, 1, .c (.int .i64 1020))]), oo 4 (.slit 3 [.t 3]), oo 5 (.build [.list (some true) true [], .list (some true) true []] [(0, 1, .t 4)]), oo 6 (.build [.int .i64 0, .int .i64 0] [(0, 1, .c (.int .i64 0)), (1, 1, .c (.int .i64 10080))]), kc 7 12 [.t 2, .t 5, .t 6], om 1 7]
def c9_2 : LC := .ops [om 8 1, on 9 8, oo 10 (.bin .eql (.t 9) (.c (.int .i64 5))), om 11 10, gm 12 11 true 1, og 13 11 true (.iaddr 2 (.t 12) (.c (.int .i64 0))), og 14 11 true (.load (some 2) (.t 13)), og 15 11 true (.build [.int .i64 0, .int .i64 0] [(0, 1, .c (.int .i64 540)), (1, 1, .c (.int .i64 1020))]), og 16 11 true (.eq (.row [.int, .int]) false (.t 14) (.t 15)), pf 17 11 16, om 0 17]
def c9_6 : LC := .seq c9_0 (.seq c9_1 (.seq c9_2 .ret))
def c9 : LF := .mk 18 c9_6 [.tmp 0]
theorem low9 : lowFn Try.prog Try.f9 = some c9 := by kernel_rfl
def c10_0 : LC := .ops [oo 1 (.box (.t 0)), oo 2 (.mov (.c (.bool false)))]
def c10_1 : LC := .ops [oa 5 0 1, ol 6 5, on 7 6, oo 8 (.bin .gtr (.t 7) (.c (.int .i64 10))), om 9 8, ga 10 9 false 1 1, gl 11 9 false 10, og 12 9 false (.len false (.t 11)), og 13 9 false (.bin .gtr (.t 12) (.c (.int .i64 60))), pt 14 9 13]
def c10_2 : LC := .ops [oo 2 (.mov (.c (.bool false)))]
def c10_8 : LC := .ops [oa 15 1 1, ol 16 15, on 17 16, oo 18 (.mov (.c (.int .i64 0)))]
def c10_9 : LC := .ops [kb 19 .lss 18 17]
def c10_12 : LC := .ops [om 20 18, oo 21 (.iaddr 1 (.t 16) (.t 18)), ol 22 21, om 3 20, om 4 22]
def c10_13 : LC := .ops [om 23 4, oo 24 (.bin .lss (.t 23) (.c (.int .i64 0))), om 25 24, gm 26 25 false 4, og 27 25 false (.bin .geq (.t 26) (.c (.int .i64 109938))), pt 28 25 27, om 29 28, gm 30 29 false 3, og 31 29 false (.bin .gtr (.t 30) (.c (.int .i64 0))), gm 32 29 false 31, ga 33 32 true 1 1, gl 34 32 true 33, gm 35 32 true 3, og 36 32 true (.bin .sub (.t 35) (.c (.int .i64 1))), og 37 32 true (.iaddr 1 (.t 34) (.t 36)), gl 38 32 true 37, gm 39 32 true 4, og 40 32 true (.bin .geq (.t 38) (.t 39)), og 41 29 false (.pick (.t 32) (.t 40) (.c (.bool false))), pt 42 29 41]
def c10_14 : LC := .ops [oo 2 (.mov (.c (.bool false)))]
def c10_22 : LC := .ops [oo 43 (.bin .add (.t 18) (.c (.int .i64 1))), om 18 43]
def c10_29 : LC := .ops [oa 44 0 1, ol 45 44, oo 46 (.call (.c (.fn 18 [])) [.t 45, .c (.fn 19 [])]), oo 47 (.un .not (.t 46)), om 2 47]
def c10_34 : LC := .seq c10_0 (.seq (.seq c10_1 (.cond (.t 14) (.seq c10_2 .ret) .skip)) (.seq (.seq c10_8 (.block 0 (.loop (.seq c10_9 (.seq (.cond (.t 19) .skip (.exit 0)) (.seq (.block 1 (.seq c10_12 (.seq c10_13 (.cond (.t 42) (.seq c10_14 .ret) .skip)))) c10_22)))))) (.seq c10_29 .ret)))
def c10 : LF := .mk 48 c10_34 [.tmp 2]
theorem low10 : lowFn Try.prog Try.f10 = some c10 := by kernel_rfl
def c11_0 : LC := .ops [oo 1 (.box (.t 0)), oo 2 (.mov (.c (.bool false)))]
def c11_1 : LC := .ops [oa 6 0 1, ol 7 6, on 8 7, oo 9 (.bin .gtr (.t 8) (.c (.int .i64 10))), om 10 9, ga 11 10 false 1 1, gl 12 10 false 11, og 13 10 false (.len false (.t 12)), og 14 10 false (.bin .gtr (.t 13) (.c (.int .i64 60))), pt 15 10 14]
def c11_2 : LC := .ops [oo 2 (.mov (.c (.bool false)))]
def c11_8 : LC := .ops [oa 16 0 1, ol 17 16, on 18 17, oo 19 (.mov (.c (.int .i64 0)))]
def c11_9 : LC := .ops [kb 20 .lss 19 18]
def c11_12 : LC := .ops [om 21 19, om 3 21]
def c11_13 : LC := .ops [oa 22 0 1, ol 23 22, om 24 3, oo 25 (.iaddr 3 (.t 23) (.t 24)), oo 26 (.load (some 3) (.t 25)), oo 4 (.alloc [.int .i64 0, .int .i64 0, .int .i64 0]), .mk none none (.store 3 (.t 4) (.t 26))]
def c11_14 : LC := .ops [oa 27 0 4, ol 28 27, oo 29 (.bin .lss (.t 28) (.c (.int .i64 1))), om 30 29, ga 31 30 false 0 4, gl 32 30 false 31, og 33 30 false (.bin .gtr (.t 32) (.c (.int .i64 127))), pt 34 30 33, om 35 34, ga 36 35 false 1 4, gl 37 35 false 36, og 38 35 false (.bin .lss (.t 37) (.c (.int .i64 0))), pt 39 35 38, om 40 39, ga 41 40 false 2 4, gl 42 40 false 41, ga 43 40 false 1 4, gl 44 40 false 43, og 45 40 false (.bin .leq (.t 42) (.t 44)), pt 46 40 45, om 47 46, ga 48 47 false 2 4, gl 49 47 false 48, og 50 47 false (.bin .gtr (.t 49) (.c (.int .i64 1440))), pt 51 47 50]
def c11_15 : LC := .ops [oo 2 (.mov (.c (.bool false)))]
def c11_24 : LC := .ops [oo 52 (.bin .add (.t 19) (.c (.int .i64 1))), om 19 52]
def c11_31 : LC := .ops [oa 53 1 1, ol 54 53, on 55 54, oo 56 (.mov (.c (.int .i64 0)))]
def c11_32 : LC := .ops [kb 57 .lss 56 55]
def c11_35 : LC := .ops [om 58 56, om 5 58]
def c11_36 : LC := .opsX [(oa 59 1 1, []), (ol 60 59, []), (om 61 5, []), (oo 62 (.iaddr 1 (.t 60) (.t 61)), []), (ol 63 62, []), (oo 64 (.bin .lss (.t 63) (.c (.int .i64 0))), []), (om 65 64, []), (ga 66 65 false 1 1, []), (gl 67 65 false 66, []), (gm 68 65 false 5, []), (og 69 65 false (.iaddr 1 (.t 67) (.t 68)), []), (gl 70 65 false 69, []), (og 71 65 false (.bin .gtr (.t 70) (.c (.int .i64 109937))), []), (pt 72 65 71, []), (om 73 72, []), (gm 74 73 false 5, []), (og 75 73 false (.bin .gtr (.t 74) (.c (.int .i64 0))), []), (gm 76 73 false 75, []), (ga 77 76 true 1 1, []), (gl 78 76 true 77, []), (gm 79 76 true 5, []), (og 80 76 true (.bin .sub (.t 79) (.c (.int .i64 1))), []), (og 81 76 true (.iaddr 1 (.t 78) (.t 80)), []), (gl 82 76 true 81, []), (ga 83 76 true 1 1, []), (gl 84 76 true 83, []), (gm 85 76 true 5, []), (og 86 76 true (.iaddr 1 (.t 84) (.t 85)), []), (gl 87 76 true 86, []), (og 88 76 true (.bin .geq (.t 82) (.t 87)), []), (og 89 73 false (.pick (.t 76) (.t 88) (.c (.bool false))), []), (pt 90 73 89, [])]
def c11_37 : LC := .ops [oo 2 (.mov (.c (.bool false)))]
def c11_45 : LC := .ops [oo 91 (.bin .add (.t 56) (.c (.int .i64 1))), om 56 91]
def c11_52 : LC := .ops [oo 2 (.mov (.c (.bool true)))]
def c11_58 : LC := .seq c11_0 (.seq (.seq c11_1 (.cond (.t 15) (.seq c11_2 .ret) .skip)) (.seq (.seq c11_8 (.block 0 (.loop (.seq c11_9 (.seq (.cond (.t 20) .skip (.exit 0)) (.seq (.block 1 (.seq c11_12 (.seq c11_13 (.seq c11_14 (.cond (.t 51) (.seq c11_15 .ret) .skip))))) c11_24)))))) (.seq (.seq c11_31 (.block 2 (.loop (.seq c11_32 (.seq (.cond (.t 57) .skip (.exit 2)) (.seq (.block 3 (.seq c11_35 (.seq c11_36 (.cond (.t 90) (.seq c11_37 .ret) .skip)))) c11_45)))))) (.seq c11_52 .ret))))
def c11 : LF := .mk 92 c11_58 [.tmp 2]
theorem low11 : lowFn Try.prog Try.f11 = some c11 := by kernel_rfl
def c12_0 : LC := .ops [oo 3 (.box (.t 0)), oo 4 (.box (.t 1)), oo 5 (.box (.t 2)), oo 6 (.mov (.c (.list (some true) true [])))]
def c12_1 : LC := .ops [oo 13 (.load (some 2) (.t 4)), kc 14 10 [.t 13], oo 15 (.un .not (.t 14)), om 16 15, og 17 16 false (.load (some 2) (.t 3)), gk 18 16 false 21 [.t 17], og 19 16 false (.un .not (.t 18)), pt 20 16 19, om 21 20, og 22 21 false (.load (some 2) (.t 5)), gk 23 21 false 22 [.t 22], pt 24 21 23]
def c12_2 : LC := .ops [oo 6 (.mov (.c (.list (some true) true [])))]
def c12_8 : LC := .opsX [(oa 25 0 5, []), (ol 26 25, []), (oo 27 (.mx (.t 26) (.c (.int .i64 0))), []), (oa 28 1 5, []), (ol 29 28, []), (oo 30 (.mn (.t 29) (.c (.int .i64 158310720))), []), (om 7 27, []), (om 8 30, [])]
def c12_9 : LC := .ops [oo 9 (.mov (.c (.list (some true) true [])))]
def c12_10 : LC := .ops [om 31 7, om 32 8, kb 33 .lss 31 32]
def c12_14 : LC := .ops [om 34 8, om 10 34]
def c12_15 : LC := .ops [oo 36 (.load (some 2) (.t 3)), om 37 7, kc 38 23 [.t 36, .t 37], om 35 38, oo 39 (.ext 0 (.t 35)), oo 40 (.ext 1 (.t 35)), om 11 39, om 12 40]
def c12_16 : LC := .ops [om 41 12]
def c12_17 : LC := .ops [om 42 11, om 43 8, oo 44 (.mn (.t 42) (.t 43)), om 10 44]
def c12_22 : LC := .opsX [(om 45 9, []), (oo 46 (.load (some 2) (.t 4)), []), (om 47 7, []), (om 48 10, []), (oo 49 (.build [.int .i64 0, .int .i64 0] [(0, 1, .t 47), (1, 1, .t 48)]), []), (oo 50 (.load (some 2) (.t 3)), []), (om 51 7, []), (kx 52 25 [.t 50, .t 51], [4]), (kx 53 24 [.t 45, .t 46, .t 49, .t 52], []), (om 9 53, [])]
def c12_23 : LC := .ops [om 54 10, om 7 54]
def c12_31 : LC := .ops [om 55 9, kc 56 26 [.t 55], om 6 56]
def c12_38 : LC := .seq c12_0 (.seq (.seq c12_1 (.cond (.t 24) (.seq c12_2 .ret) .skip)) (.seq c12_8 (.seq c12_9 (.seq (.block 0 (.loop (.seq (.seq c12_10 (.cond (.t 33) .skip (.exit 0))) (.block 1 (.seq c12_14 (.seq (.seq c12_15 (.seq c12_16 (.cond (.t 41) c12_17 .skip))) (.seq c12_22 c12_23))))))) (.seq c12_31 .ret)))))
def c12 : LF := .mk 57 c12_38 [.tmp 6]
theorem low12 : lowFn Try.prog Try.f12 = some c12 := by kernel_rfl
def c16_0 : LC := .ops [oo 3 (.box (.t 0)), oo 4 (.box (.t 1)), oo 6 (.mov (.c (.bool false)))]
def c16_1 : LC := .ops [om 10 2, oo 11 (.bin .lss (.t 10) (.c (.int .i64 0))), om 12 11, gm 13 12 false 2, og 14 12 false (.bin .geq (.t 13) (.c (.int .i64 158310720))), pt 15 12 14, om 16 15, og 17 16 false (.load (some 2) (.t 4)), gk 18 16 false 10 [.t 17], og 19 16 false (.un .not (.t 18)), pt 20 16 19, om 21 20, og 22 21 false (.load (some 2) (.t 3)), gk 23 21 false 21 [.t 22], og 24 21 false (.un .not (.t 23)), pt 25 21 24]
def c16_2 : LC := .ops [oo 6 (.mov (.c (.bool false)))]
def c16_8 : LC := .ops [om 26 2, oo 27 (.load (some 2) (.t 3)), om 28 2, kc 29 25 [.t 27, .t 28], kb 30 .add 26 29, om 7 30]
def c16_9 : LC := .ops [om 31 7, kc 32 27 [.t 31], oo 8 (.alloc [.int .i64 0]), .mk none none (.store 1 (.t 8) (.t 32))]
def c16_10 : LC := .ops [om 33 7, ol 34 8, oo 35 (.bin .mul (.t 34) (.c (.int .i64 1440))), kb 36 .sub 33 35, oo 9 (.alloc [.int .i64 0]), .mk none none (.store 1 (.t 9) (.t 36))]
def c16_11 : LC := .ops [oa 37 0 4, ol 38 37, oo 39 (.mkfn 28 [.t 4, .t 8, .t 9]), kc 40 18 [.t 38, .t 39], om 6 40]
def c16_18 : LC := .seq c16_0 (.seq (.seq c16_1 (.cond (.t 25) (.seq c16_2 .ret) .skip)) (.seq c16_8 (.seq c16_9 (.seq c16_10 (.seq c16_11 .ret)))))
def c16 : LF := .mk 41 c16_18 [.tmp 6]
theorem low16 : lowFn Try.prog Try.f16 = some c16 := by kernel_rfl
def c18_0 : LC := .ops [oo 4 (.mov (.c (.bool false)))]
def c18_1 : LC := .ops [om 5 0, om 6 1, kc 7 32 [.t 5, .t 6], oo 8 (.bin .geq (.t 7) (.c (.int .i64 0))), om 4 8]
def c18_4 : LC := .seq c18_0 (.seq c18_1 .ret)
def c18 : LF := .mk 9 c18_4 [.tmp 4]
theorem low18 : lowFn Try.prog Try.f18 = some c18 := by kernel_rfl
def c19_0 : LC := .ops [oo 1 (.box (.t 0)), oo 2 (.mov (.c (.bool false)))]
def c19_1 : LC := .ops [oo 3 (.load (some 3) (.t 1)), kc 4 20 [.t 3], oo 5 (.un .not (.t 4)), om 2 5]
def c19_4 : LC := .seq c19_0 (.seq c19_1 .ret)
def c19 : LF := .mk 6 c19_4 [.tmp 2]
theorem low19 : lowFn Try.prog Try.f19 = some c19 := by kernel_rfl
def c20_0 : LC := .ops [oo 1 (.box (.t 0)), oo 2 (.mov (.c (.bool false)))]
def c20_1 : LC := .ops [oa 3 0 1, ol 4 3, oo 5 (.bin .geq (.t 4) (.c (.int .i64 1))), om 6 5, ga 7 6 true 0 1, gl 8 6 true 7, og 9 6 true (.bin .leq (.t 8) (.c (.int .i64 127))), pf 10 6 9, om 11 10, ga 12 11 true 1 1, gl 13 11 true 12, og 14 11 true (.bin .geq (.t 13) (.c (.int .i64 0))), pf 15 11 14, om 16 15, ga 17 16 true 1 1, gl 18 16 true 17, ga 19 16 true 2 1, gl 20 16 true 19, og 21 16 true (.bin .lss (.t 18) (.t 20)), pf 22 16 21, om 23 22, ga 24 23 true 2 1, gl 25 23 true 24, og 26 23 true (.bin .leq (.t 25) (.c (.int .i64 1440))), pf 27 23 26, om 2 27]
def c20_4 : LC := .seq c20_0 (.seq c20_1 .ret)
def c20 : LF := .mk 28 c20_4 [.tmp 2]
theorem low20 : lowFn Try.prog Try.f20 = some c20 := by kernel_rfl
def c21_0 : LC := .ops [oo 1 (.box (.t 0)), oo 2 (.mov (.c (.bool false)))]
def c21_1 : LC := .ops [oa 5 0 1, ol 6 5, kc 7 33 [.t 6], om 8 7, ga 9 8 false 1 1, gl 10 8 false 9, og 11 8 false (.len false (.t 10)), og 12 8 false (.bin .gtr (.t 11) (.c (.int .i64 700))), pt 13 8 12]
def c21_2 : LC := .ops [oo 2 (.mov (.c (.bool false)))]
def c21_8 : LC := .ops [oa 14 1 1, ol 15 14, on 16 15, oo 17 (.mov (.c (.int .i64 0)))]
def c21_9 : LC := .ops [kb 18 .lss 17 16]
def c21_12 : LC := .ops [om 19 17, oo 20 (.iaddr 2 (.t 15) (.t 17)), oo 21 (.load (some 2) (.t 20)), oo 4 (.alloc [.int .i64 0, .int .i64 0]), om 3 19, .mk none none (.store 2 (.t 4) (.t 21))]
def c21_13 : LC := .opsX [(oa 22 1 4, []), (ol 23 22, []), (kx 24 33 [.t 23], []), (om 25 24, []), (ga 26 25 false 0 4, []), (gl 27 25 false 26, []), (og 28 25 false (.bin .lss (.t 27) (.c (.int .i64 0))), []), (pt 29 25 28, []), (om 30 29, []), (ga 31 30 false 0 4, []), (gl 32 30 false 31, []), (og 33 30 false (.bin .gtr (.t 32) (.c (.int .i64 158310720))), []), (pt 34 30 33, []), (om 35 34, []), (gm 36 35 false 3, []), (og 37 35 false (.bin .gtr (.t 36) (.c (.int .i64 0))), []), (gm 38 35 false 37, []), (ga 39 38 true 0 4, []), (gl 40 38 true 39, []), (ga 41 38 true 1 1, []), (gl 42 38 true 41, []), (gm 43 38 true 3, []), (og 44 38 true (.bin .sub (.t 43) (.c (.int .i64 1))), []), (og 45 38 true (.iaddr 2 (.t 42) (.t 44)), []), (ga 46 38 true 0 45, []), (gl 47 38 true 46, []), (og 48 38 true (.bin .lss (.t 40) (.t 47)), []), (gm 49 38 true 48, []), (ga 50 49 false 0 4, []), (gl 51 49 false 50, []), (ga 52 49 false 1 1, []), (gl 53 49 false 52, []), (gm 54 49 false 3, []), (og 55 49 false (.bin .sub (.t 54) (.c (.int .i64 1))), []), (og 56 49 false (.iaddr 2 (.t 53) (.t 55)), []), (ga 57 49 false 0 56, []), (gl 58 49 false 57, []), (og 59 49 false (.bin .sub (.t 51) (.t 58)), []), (og 60 49 false (.bin .lss (.t 59) (.c (.int .i64 2880))), []), (og 61 38 true (.pick (.t 49) (.c (.bool true)) (.t 60)), []), (og 62 35 false (.pick (.t 38) (.t 61) (.c (.bool false))), []), (pt 63 35 62, [])]
def c21_14 : LC := .ops [oo 2 (.mov (.c (.bool false)))]
def c21_22 : LC := .ops [oo 64 (.bin .add (.t 17) (.c (.int .i64 1))), om 17 64]
def c21_29 : LC := .ops [oo 2 (.mov (.c (.bool true)))]
def c21_34 : LC := .seq c21_0 (.seq (.seq c21_1 (.cond (.t 13) (.seq c21_2 .ret) .skip)) (.seq (.seq c21_8 (.block 0 (.loop (.seq c21_9 (.seq (.cond (.t 18) .skip (.exit 0)) (.seq (.block 1 (.seq c21_12 (.seq c21_13 (.cond (.t 63) (.seq c21_14 .ret) .skip)))) c21_22)))))) (.seq c21_29 .ret)))
def c21 : LF := .mk 65 c21_34 [.tmp 2]
theorem low21 : lowFn Try.prog Try.f21 = some c21 := by kernel_rfl
def c22_0 : LC := .ops [oo 1 (.box (.t 0)), oo 2 (.mov (.c (.bool false)))]
def c22_1 : LC := .ops [oa 3 0 1, ol 4 3, oa 5 1 1, ol 6 5, kb 7 .lss 4 6, om 8 7, ga 9 8 true 1 1, gl 10 8 true 9, og 11 8 true (.conv .u64 (.t 10)), ga 12 8 true 0 1, gl 13 8 true 12, og 14 8 true (.conv .u64 (.t 13)), og 15 8 true (.bin .sub (.t 11) (.t 14)), og 16 8 true (.bin .gtr (.t 15) (.c (.int .u64 527040))), pf 17 8 16, om 2 17]
def c22_4 : LC := .seq c22_0 (.seq c22_1 .ret)
def c22 : LF := .mk 18 c22_4 [.tmp 2]
theorem low22 : lowFn Try.prog Try.f22 = some c22 := by kernel_rfl
def c23_0 : LC := .ops [oo 2 (.box (.t 0)), oo 4 (.mov (.c (.int .i64 0))), oo 5 (.mov (.c (.bool false)))]
def c23_1 : LC := .ops [oo 7 (.load (some 2) (.t 2)), kc 8 21 [.t 7], oo 9 (.un .not (.t 8))]
def c23_2 : LC := .ops [oo 4 (.mov (.c (.int .i64 0))), oo 5 (.mov (.c (.bool false)))]
def c23_8 : LC := .ops [oo 10 (.load (some 2) (.t 2)), om 11 1, kc 12 34 [.t 10, .t 11], om 6 12]
def c23_9 : LC := .ops [om 13 6, oa 14 1 2, ol 15 14, on 16 15, kb 17 .eql 13 16]
def c23_10 : LC := .ops [oo 4 (.mov (.c (.int .i64 0))), oo 5 (.mov (.c (.bool false)))]
def c23_16 : LC := .ops [oa 18 1 2, ol 19 18, om 20 6, oo 21 (.iaddr 2 (.t 19) (.t 20)), oa 22 0 21, ol 23 22, om 4 23, oo 5 (.mov (.c (.bool true)))]
def c23_22 : LC := .seq c23_0 (.seq (.seq c23_1 (.cond (.t 9) (.seq c23_2 .ret) .skip)) (.seq c23_8 (.seq (.seq c23_9 (.cond (.t 17) (.seq c23_10 .ret) .skip)) (.seq c23_16 .ret))))
def c23 : LF := .mk 24 c23_22 [.tmp 4, .tmp 5]
theorem low23 : lowFn Try.prog Try.f23 = some c23 := by kernel_rfl
def c24_0 : LC := .ops [oo 5 (.box (.t 1)), oo 6 (.box (.t 2)), oo 8 (.mov (.c (.list (some true) true [])))]
def c24_1 : LC := .ops [oa 14 0 6, ol 15 14, om 16 3, kb 17 .add 15 16, kc 18 27 [.t 17], om 9 18]
def c24_2 : LC := .ops [om 19 9, oa 20 1 6, ol 21 20, oo 22 (.bin .sub (.t 21) (.c (.int .i64 1))), om 23 3, kb 24 .add 22 23, kc 25 27 [.t 24], kb 26 .leq 19 25]
def c24_6 : LC := .ops [om 29 9, oo 30 (.bin .mul (.t 29) (.c (.int .i64 1440))), om 31 3, kb 32 .sub 30 31, om 10 32]
def c24_7 : LC := .ops [oa 33 0 5, ol 34 33, on 35 34, oo 36 (.mov (.c (.int .i64 0)))]
def c24_8 : LC := .ops [kb 37 .lss 36 35]
def c24_11 : LC := .ops [oo 38 (.iaddr 3 (.t 34) (.t 36)), oo 39 (.load (some 3) (.t 38)), oo 12 (.alloc [.int .i64 0, .int .i64 0, .int .i64 0]), .mk none none (.store 3 (.t 12) (.t 39))]
def c24_12 : LC := .ops [oo 40 (.load (some 2) (.t 5)), oo 41 (.load (some 3) (.t 12)), om 42 9, kc 43 29 [.t 40, .t 41, .t 42], oo 44 (.un .not (.t 43))]
def c24_16 : LC := .ops [om 45 10, oa 46 1 12, ol 47 46, kb 48 .add 45 47, oa 49 0 6, ol 50 49, oo 51 (.mx (.t 48) (.t 50)), om 52 10, oa 53 2 12, ol 54 53, kb 55 .add 52 54, oa 56 1 6, ol 57 56, oo 58 (.mn (.t 55) (.t 57)), oo 59 (.build [.int .i64 0, .int .i64 0] [(0, 1, .t 51), (1, 1, .t 58)]), oo 13 (.alloc [.int .i64 0, .int .i64 0]), .mk none none (.store 2 (.t 13) (.t 59))]
def c24_17 : LC := .ops [oa 60 0 13, ol 61 60, oa 62 1 13, ol 63 62, kb 64 .lss 61 63]
def c24_18 : LC := .ops [om 65 0, oo 66 (.load (some 2) (.t 13)), oo 67 (.slit 2 [.t 66]), oo 68 (.app 2 16 (.t 65) (.t 67)), om 0 68]
def c24_26 : LC := .ops [oo 69 (.bin .add (.t 36) (.c (.int .i64 1))), om 36 69]
def c24_35 : LC := .ops [om 27 9, oo 28 (.bin .add (.t 27) (.c (.int .i64 1))), om 9 28]
def c24_41 : LC := .ops [om 70 0, om 8 70]
def c24_45 : LC := .seq c24_0 (.seq (.seq c24_1 (.block 0 (.loop (.seq (.seq c24_2 (.cond (.t 26) .skip (.exit 0))) (.seq (.block 1 (.seq c24_6 (.seq c24_7 (.block 2 (.loop (.seq c24_8 (.seq (.cond (.t 37) .skip (.exit 2)) (.seq (.block 3 (.seq c24_11 (.seq (.seq c24_12 (.cond (.t 44) (.exit 3) .skip)) (.seq c24_16 (.seq c24_17 (.cond (.t 64) c24_18 .skip)))))) c24_26)))))))) c24_35))))) (.seq c24_41 .ret))
def c24 : LF := .mk 71 c24_45 [.tmp 8]
theorem low24 : lowFn Try.prog Try.f24 = some c24 := by kernel_rfl
def c25_0 : LC := .ops [oo 2 (.box (.t 0)), oo 4 (.mov (.c (.int .i64 0)))]
def c25_1 : LC := .ops [oo 5 (.load (some 2) (.t 2)), kc 6 21 [.t 5], oo 7 (.un .not (.t 6))]
def c25_2 : LC := .ops [oo 4 (.mov (.c (.int .i64 0)))]
def c25_8 : LC := .opsX [(oo 8 (.load (some 2) (.t 2)), []), (oo 9 (.load (some 2) (.t 2)), []), (om 10 1, []), (kx 11 34 [.t 9, .t 10], [2]), (kx 12 35 [.t 8, .t 11], []), (om 4 12, [])]
def c25_12 : LC := .seq c25_0 (.seq (.seq c25_1 (.cond (.t 7) (.seq c25_2 .ret) .skip)) (.seq c25_8 .ret))
def c25 : LF := .mk 13 c25_12 [.tmp 4]
theorem low25 : lowFn Try.prog Try.f25 = some c25 := by kernel_rfl
def c26_0 : LC := .ops [oo 2 (.mov (.c (.list (some true) true [])))]
def c26_1 : LC := .ops [om 7 0, oo 8 (.call (.c (.fn 36 [])) [.t 7, .c (.fn 37 [])])]
def c26_2 : LC := .ops [oo 3 (.mov (.c (.list (some true) true [])))]
def c26_3 : LC := .ops [om 9 0, on 10 9, oo 11 (.mov (.c (.int .i64 0)))]
def c26_4 : LC := .ops [kb 12 .lss 11 10]
def c26_7 : LC := .ops [oo 13 (.iaddr 2 (.t 9) (.t 11)), oo 14 (.load (some 2) (.t 13)), oo 5 (.alloc [.int .i64 0, .int .i64 0]), .mk none none (.store 2 (.t 5) (.t 14))]
def c26_8 : LC := .ops [om 15 3, on 16 15, om 6 16]
def c26_9 : LC := .opsX [(om 17 6, []), (oo 18 (.bin .gtr (.t 17) (.c (.int .i64 0))), []), (om 19 18, []), (ga 20 19 true 0 5, []), (gl 21 19 true 20, []), (gm 22 19 true 3, []), (gm 23 19 true 6, []), (og 24 19 true (.bin .sub (.t 23) (.c (.int .i64 1))), []), (og 25 19 true (.iaddr 2 (.t 22) (.t 24)), []), (ga 26 19 true 1 25, []), (gl 27 19 true 26, []), (og 28 19 true (.bin .leq (.t 21) (.t 27)), []), (pf 29 19 28, [])]
def c26_10 : LC := .opsX [(om 30 3, []), (om 31 6, []), (oo 32 (.bin .sub (.t 31) (.c (.int .i64 1))), []), (om 33 3, []), (om 34 6, []), (oo 35 (.bin .sub (.t 34) (.c (.int .i64 1))), []), (oo 36 (.iaddr 2 (.t 33) (.t 35)), []), (oa 37 1 36, []), (ol 38 37, []), (oa 39 1 5, []), (ol 40 39, []), (oo 41 (.mx (.t 38) (.t 40)), []), (oo 42 (.iaddr 2 (.t 30) (.t 32)), []), (oa 43 1 42, []), (.mk none none (.store 1 (.t 43) (.t 41)), [])]
def c26_16 : LC := .ops [om 44 3, oo 45 (.load (some 2) (.t 5)), oo 46 (.slit 2 [.t 45]), oo 47 (.app 2 16 (.t 44) (.t 46)), om 3 47]
def c26_20 : LC := .ops [oo 48 (.bin .add (.t 11) (.c (.int .i64 1))), om 11 48]
def c26_27 : LC := .ops [om 49 3, om 2 49]
def c26_33 : LC := .seq c26_0 (.seq c26_1 (.seq c26_2 (.seq (.seq c26_3 (.block 0 (.loop (.seq c26_4 (.seq (.cond (.t 12) .skip (.exit 0)) (.seq (.block 1 (.seq c26_7 (.seq (.seq c26_8 (.seq c26_9 (.cond (.t 29) (.seq c26_10 (.exit 1)) .skip))) c26_16))) c26_20)))))) (.seq c26_27 .ret))))
def c26 : LF := .mk 50 c26_33 [.tmp 2]
theorem low26 : lowFn Try.prog Try.f26 = some c26 := by kernel_rfl
def c27_0 : LC := .ops [oo 2 (.mov (.c (.int .i64 0)))]
def c27_1 : LC := .ops [om 3 0, oo 4 (.bin .lss (.t 3) (.c (.int .i64 0)))]
def c27_2 : LC := .ops [oo 2 (.mov (.c (.int .i64 (-1))))]
def c27_8 : LC := .ops [om 5 0, oo 6 (.bin .quo (.t 5) (.c (.int .i64 1440))), om 2 6]
def c27_12 : LC := .seq c27_0 (.seq (.seq c27_1 (.cond (.t 4) (.seq c27_2 .ret) .skip)) (.seq c27_8 .ret))
def c27 : LF := .mk 7 c27_12 [.tmp 2]
theorem low27 : lowFn Try.prog Try.f27 = some c27 := by kernel_rfl
def c28_0 : LC := .ops [oo 4 (.box (.t 0)), oo 5 (.mov (.c (.bool false)))]
def c28_1 : LC := .ops [oo 6 (.load (some 2) (.t 1)), oo 7 (.load (some 3) (.t 4)), ol 8 2, kc 9 29 [.t 6, .t 7, .t 8], om 10 9, gl 11 10 true 3, ga 12 10 true 1 4, gl 13 10 true 12, og 14 10 true (.bin .geq (.t 11) (.t 13)), pf 15 10 14, om 16 15, gl 17 16 true 3, ga 18 16 true 2 4, gl 19 16 true 18, og 20 16 true (.bin .lss (.t 17) (.t 19)), pf 21 16 20, om 5 21]
def c28_4 : LC := .seq c28_0 (.seq c28_1 .ret)
def c28 : LF := .mk 22 c28_4 [.tmp 5]
theorem low28 : lowFn Try.prog Try.f28 = some c28 := by kernel_rfl
def c29_0 : LC := .ops [oo 3 (.box (.t 0)), oo 4 (.box (.t 1)), oo 6 (.mov (.c (.bool false)))]
def c29_1 : LC := .ops [oa 10 1 3, ol 11 10, om 12 2, kc 13 39 [.t 11, .t 12], om 9 13, oo 14 (.ext 0 (.t 9)), oo 15 (.ext 1 (.t 9)), om 7 14, om 8 15]
def c29_2 : LC := .opsX [(om 16 8, []), (oo 17 (.un .not (.t 16)), []), (om 18 17, []), (ga 19 18 true 0 4, []), (gl 20 18 true 19, []), (gm 21 18 true 2, []), (og 22 18 true (.callX (.c (.fn 40 [])) [.t 21]), [19]), (og 23 18 true (.bin .shr (.t 20) (.t 22)), []), (og 24 18 true (.bin .and (.t 23) (.c (.int .i64 1))), []), (og 25 18 true (.bin .eql (.t 24) (.c (.int .i64 1))), []), (pf 26 18 25, []), (om 6 26, [])]
def c29_6 : LC := .seq c29_0 (.seq c29_1 (.seq c29_2 .ret))
def c29 : LF := .mk 27 c29_6 [.tmp 6]
theorem low29 : lowFn Try.prog Try.f29 = some c29 := by kernel_rfl
def c32_0 : LC := .ops [oo 4 (.mov (.c (.int .i64 0)))]
def c32_1 : LC := .ops [om 6 0, on 7 6, oo 8 (.mov (.c (.int .i64 0)))]
def c32_2 : LC := .ops [kb 9 .lss 8 7]
def c32_5 : LC := .ops [om 10 8, om 5 10]
def c32_6 : LC := .ops [om 11 1, om 12 0, om 13 5, oo 14 (.iaddr 3 (.t 12) (.t 13)), oo 15 (.load (some 3) (.t 14)), oo 16 (.call (.t 11) [.t 15])]
def c32_7 : LC := .ops [om 17 5, om 4 17]
def c32_15 : LC := .ops [oo 18 (.bin .add (.t 8) (.c (.int .i64 1))), om 8 18]
def c32_22 : LC := .ops [oo 4 (.mov (.c (.int .i64 (-1))))]
def c32_26 : LC := .seq c32_0 (.seq (.seq c32_1 (.block 0 (.loop (.seq c32_2 (.seq (.cond (.t 9) .skip (.exit 0)) (.seq (.block 1 (.seq c32_5 (.seq c32_6 (.cond (.t 16) (.seq c32_7 .ret) .skip)))) c32_15)))))) (.seq c32_22 .ret))
def c32 : LF := .mk 19 c32_26 [.tmp 4]
theorem low32 : lowFn Try.prog Try.f32 = some c32 := by kernel_rfl
def c33_0 : LC := .ops [oo 2 (.mov (.c (.bool false)))]
def c33_1 : LC := .ops [om 3 0, oo 4 (.bin .lss (.t 3) (.c (.int .i64 (-900)))), om 5 4, gm 6 5 false 0, og 7 5 false (.bin .gtr (.t 6) (.c (.int .i64 900))), pt 8 5 7, om 2 8]
def c33_4 : LC := .seq c33_0 (.seq c33_1 .ret)
def c33 : LF := .mk 9 c33_4 [.tmp 2]
theorem low33 : lowFn Try.prog Try.f33 = some c33 := by kernel_rfl
def c34_0 : LC := .ops [oo 2 (.box (.t 0)), oo 4 (.mov (.c (.int .i64 0)))]
def c34_1 : LC := .ops [oa 8 1 2, ol 9 8, om 10 1, oo 11 (.call (.c (.fn 41 [])) [.t 9, .t 10, .c (.fn 42 [])]), om 7 11, oo 12 (.ext 0 (.t 7)), oo 13 (.ext 1 (.t 7)), om 5 12, om 6 13]
def c34_2 : LC := .ops [om 14 6]
def c34_3 : LC := .ops [om 15 5, oo 16 (.bin .add (.t 15) (.c (.int .i64 1))), om 5 16]
def c34_7 : LC := .ops [om 17 5, om 4 17]
def c34_12 : LC := .seq c34_0 (.seq c34_1 (.seq (.seq c34_2 (.cond (.t 14) c34_3 .skip)) (.seq c34_7 .ret)))
def c34 : LF := .mk 18 c34_12 [.tmp 4]
theorem low34 : lowFn Try.prog Try.f34 = some c34 := by kernel_rfl
def c35_0 : LC := .ops [oo 2 (.box (.t 0)), oo 4 (.mov (.c (.int .i64 0)))]
def c35_1 : LC := .ops [om 5 1, oo 6 (.bin .eql (.t 5) (.c (.int .i64 0)))]
def c35_2 : LC := .ops [oa 7 0 2, ol 8 7, om 4 8]
def c35_8 : LC := .ops [oa 9 1 2, ol 10 9, om 11 1, oo 12 (.bin .sub (.t 11) (.c (.int .i64 1))), oo 13 (.iaddr 2 (.t 10) (.t 12)), oa 14 1 13, ol 15 14, om 4 15]
def c35_12 : LC := .seq c35_0 (.seq (.seq c35_1 (.cond (.t 6) (.seq c35_2 .ret) .skip)) (.seq c35_8 .ret))
def c35 : LF := .mk 16 c35_12 [.tmp 4]
theorem low35 : lowFn Try.prog Try.f35 = some c35 := by kernel_rfl
def c38_0 : LC := .ops [oo 4 (.mov (.c (.int .i64 0)))]
def c38_1 : LC := .ops [om 7 0, kc 8 45 [.t 7], om 5 8]
def c38_2 : LC := .ops [om 9 1, kc 10 45 [.t 9], om 6 10]
def c38_3 : LC := .ops [om 11 5]
def c38_4 : LC := .ops [om 12 6]
def c38_5 : LC := .ops [oo 4 (.mov (.c (.int .i64 0)))]
def c38_11 : LC := .ops [oo 4 (.mov (.c (.int .i64 (-1))))]
def c38_18 : LC := .ops [om 13 6]
def c38_19 : LC := .ops [oo 4 (.mov (.c (.int .i64 1)))]
def c38_25 : LC := .ops [om 14 0, om 15 1, kb 16 .lss 14 15]
def c38_26 : LC := .ops [oo 4 (.mov (.c (.int .i64 (-1))))]
def c38_32 : LC := .ops [om 17 0, om 18 1, kb 19 .gtr 17 18]
def c38_33 : LC := .ops [oo 4 (.mov (.c (.int .i64 1)))]
def c38_39 : LC := .ops [oo 4 (.mov (.c (.int .i64 0)))]
def c38_48 : LC := .seq c38_0 (.seq c38_1 (.seq c38_2 (.seq (.seq c38_3 (.cond (.t 11) (.seq (.seq c38_4 (.cond (.t 12) (.seq c38_5 .ret) .skip)) (.seq c38_11 .ret)) .skip)) (.seq (.seq c38_18 (.cond (.t 13) (.seq c38_19 .ret) .skip)) (.seq (.seq c38_25 (.cond (.t 16) (.seq c38_26 .ret) .skip)) (.seq (.seq c38_32 (.cond (.t 19) (.seq c38_33 .ret) .skip)) (.seq c38_39 .ret)))))))
def c38 : LF := .mk 20 c38_48 [.tmp 4]
theorem low38 : lowFn Try.prog Try.f38 = some c38 := by kernel_rfl
def c39_0 : LC := .ops [oo 4 (.mov (.c (.int .i64 0))), oo 5 (.mov (.c (.bool false)))]
def c39_1 : LC := .ops [om 10 0, on 11 10, om 6 11]
def c39_2 : LC := .ops [om 12 6, oo 7 (.mov (.c (.int .i64 0))), om 8 12]
def c39_3 : LC := .ops [om 13 7, om 14 8, kb 15 .lss 13 14]
def c39_7 : LC := .ops [om 16 7, om 17 8, kb 18 .add 16 17, oo 19 (.conv .u64 (.t 18)), oo 20 (.bin .shr (.t 19) (.c (.int .u64 1))), oo 21 (.conv .i64 (.t 20)), om 9 21]
def c39_8 : LC := .ops [om 22 0, om 23 9, oo 24 (.iaddr 1 (.t 22) (.t 23)), ol 25 24, om 26 1, kc 27 46 [.t 25, .t 26]]
def c39_9 : LC := .ops [om 28 9, oo 29 (.bin .add (.t 28) (.c (.int .i64 1))), om 7 29]
def c39_10 : LC := .ops [om 30 9, om 8 30]
def c39_18 : LC := .ops [om 31 7, om 32 7, om 33 6, kb 34 .lss 32 33, om 35 34, gm 36 35 true 0, gm 37 35 true 7, og 38 35 true (.iaddr 1 (.t 36) (.t 37)), gl 39 35 true 38, gm 40 35 true 1, og 41 35 true (.bin .eql (.t 39) (.t 40)), gm 42 35 true 41, gm 43 42 false 0, gm 44 42 false 7, og 45 42 false (.iaddr 1 (.t 43) (.t 44)), gl 46 42 false 45, gk 47 42 false 47 [.t 46], gm 48 42 false 47, gm 49 48 true 1, gk 50 48 true 47 [.t 49], og 51 42 false (.pick (.t 48) (.t 50) (.c (.bool false))), og 52 35 true (.pick (.t 42) (.c (.bool true)) (.t 51)), pf 53 35 52, om 4 31, om 5 53]
def c39_24 : LC := .seq c39_0 (.seq c39_1 (.seq c39_2 (.seq (.block 0 (.loop (.seq (.seq c39_3 (.cond (.t 15) .skip (.exit 0))) (.block 1 (.seq c39_7 (.seq c39_8 (.cond (.t 27) c39_9 c39_10))))))) (.seq c39_18 .ret))))
def c39 : LF := .mk 54 c39_24 [.tmp 4, .tmp 5]
theorem low39 : lowFn Try.prog Try.f39 = some c39 := by kernel_rfl
def c40_0 : LC := .ops [oo 2 (.mov (.c (.int .i64 0)))]
def c40_1 : LC := .ops [om 3 0, oo 4 (.bin .rem (.t 3) (.c (.int .i64 7))), oo 5 (.bin .add (.t 4) (.c (.int .i64 7))), oo 6 (.bin .rem (.t 5) (.c (.int .i64 7))), om 2 6]
def c40_4 : LC := .seq c40_0 (.seq c40_1 .ret)
def c40 : LF := .mk 7 c40_4 [.tmp 2]
theorem low40 : lowFn Try.prog Try.f40 = some c40 := by kernel_rfl
def c41_0 : LC := .ops [oo 6 (.mov (.c (.int .i64 0))), oo 7 (.mov (.c (.bool false)))]
def c41_1 : LC := .ops [om 12 0, on 13 12, om 8 13]
def c41_2 : LC := .ops [om 14 8, oo 9 (.mov (.c (.int .i64 0))), om 10 14]
def c41_3 : LC := .ops [om 15 9, om 16 10, kb 17 .lss 15 16]
def c41_7 : LC := .ops [om 18 9, om 19 10, kb 20 .add 18 19, oo 21 (.conv .u64 (.t 20)), oo 22 (.bin .shr (.t 21) (.c (.int .u64 1))), oo 23 (.conv .i64 (.t 22)), om 11 23]
def c41_8 : LC := .ops [om 24 2, om 25 0, om 26 11, oo 27 (.iaddr 2 (.t 25) (.t 26)), oo 28 (.load (some 2) (.t 27)), om 29 1, oo 30 (.call (.t 24) [.t 28, .t 29]), oo 31 (.bin .lss (.t 30) (.c (.int .i64 0)))]
def c41_9 : LC := .ops [om 32 11, oo 33 (.bin .add (.t 32) (.c (.int .i64 1))), om 9 33]
def c41_10 : LC := .ops [om 34 11, om 10 34]
def c41_18 : LC := .ops [om 35 9, om 36 9, om 37 8, kb 38 .lss 36 37, om 39 38, gm 40 39 true 2, gm 41 39 true 0, gm 42 39 true 9, og 43 39 true (.iaddr 2 (.t 41) (.t 42)), og 44 39 true (.load (some 2) (.t 43)), gm 45 39 true 1, og 46 39 true (.call (.t 40) [.t 44, .t 45]), og 47 39 true (.bin .eql (.t 46) (.c (.int .i64 0))), pf 48 39 47, om 6 35, om 7 48]
def c41_24 : LC := .seq c41_0 (.seq c41_1 (.seq c41_2 (.seq (.block 0 (.loop (.seq (.seq c41_3 (.cond (.t 17) .skip (.exit 0))) (.block 1 (.seq c41_7 (.seq c41_8 (.cond (.t 31) c41_9 c41_10))))))) (.seq c41_18 .ret))))
def c41 : LF := .mk 49 c41_24 [.tmp 6, .tmp 7]
theorem low41 : lowFn Try.prog Try.f41 = some c41 := by kernel_rfl
def c42_0 : LC := .ops [oo 2 (.box (.t 0)), oo 4 (.mov (.c (.int .i64 0)))]
def c42_1 : LC := .ops [oa 5 0 2, ol 6 5, om 7 1, kc 8 38 [.t 6, .t 7], om 4 8]
def c42_4 : LC := .seq c42_0 (.seq c42_1 .ret)
def c42 : LF := .mk 9 c42_4 [.tmp 4]
theorem low42 : lowFn Try.prog Try.f42 = some c42 := by kernel_rfl
def c45_0 : LC := .ops [oo 2 (.mov (.c (.bool false)))]
def c45_1 : LC := .ops [om 3 0, om 4 0, kb 5 .neq 3 4, om 2 5]
def c45_4 : LC := .seq c45_0 (.seq c45_1 .ret)
def c45 : LF := .mk 6 c45_4 [.tmp 2]
theorem low45 : lowFn Try.prog Try.f45 = some c45 := by kernel_rfl
def c46_0 : LC := .ops [oo 4 (.mov (.c (.bool false)))]
def c46_1 : LC := .ops [om 5 0, kc 6 58 [.t 5], om 7 6, gm 8 7 true 1, gk 9 7 true 58 [.t 8], og 10 7 true (.un .not (.t 9)), pf 11 7 10, om 12 11, gm 13 12 false 0, gm 14 12 false 1, og 15 12 false (.bin .lss (.t 13) (.t 14)), pt 16 12 15, om 4 16]
def c46_4 : LC := .seq c46_0 (.seq c46_1 .ret)
def c46 : LF := .mk 17 c46_4 [.tmp 4]
theorem low46 : lowFn Try.prog Try.f46 = some c46 := by kernel_rfl
def c47_0 : LC := .ops [oo 2 (.mov (.c (.bool false)))]
def c47_1 : LC := .ops [om 3 0, om 4 0, kb 5 .neq 3 4, om 2 5]
def c47_4 : LC := .seq c47_0 (.seq c47_1 .ret)
def c47 : LF := .mk 6 c47_4 [.tmp 2]
theorem low47 : lowFn Try.prog Try.f47 = some c47 := by kernel_rfl
def c58_0 : LC := .ops [oo 2 (.mov (.c (.bool false)))]
def c58_1 : LC := .ops [om 3 0, om 4 0, kb 5 .neq 3 4, om 2 5]
def c58_4 : LC := .seq c58_0 (.seq c58_1 .ret)
def c58 : LF := .mk 6 c58_4 [.tmp 2]
theorem low58 : lowFn Try.prog Try.f58 = some c58 := by kernel_rfl
end Go.Proofs.Ytoljgjdloegnoaa
