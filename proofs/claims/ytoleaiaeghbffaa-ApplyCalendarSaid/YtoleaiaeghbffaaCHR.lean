/-
 What any request does to a calendar is as the document says; another user's is left alone: what the law's function answers over data.
-/
import Derived.Test.YtoleaiaeghbffaaCMG
import Derived.Test.YtoleaiaeghbffaaCMB
set_option linter.unusedVariables false
set_option linter.unusedSimpArgs false
set_option linter.unnecessarySimpa false
namespace Go.Proofs.Ytoleaiaeghbffaa.applyCalendar
open Go Go.Vi
def law_shapes : List (Bool × List Sh) := [(true, shSt), (true, [.int .i64, .int .u32, .int .u64, .int .u32, .int .u32, .int .i64, sh2 16 .i64 .i64, sh3, sh1 8 .i64, .int .i64, .int .i64, .int .i64, .int .i64, .bool, .bool, .int .i64, .int .i64, .int .i64, .int .i64, sh1 8 .i64, sh1 8 .i64, sh2 16 .i64 .i64, sh1 8 .i64, .int .i64, sh1 8 .i64, sh1 8 .i64, sh3, .int .i64, .int .i64, .int .i64, .int .i64, sh1 4 .u32, sh2 16 .u32 .i64, .int .i64, sh2 8 .u32 .u32, sh3, .str, .int .i64, .int .u32, .int .i64, .bool, .int .i64])]
set_option maxRecDepth 100000 in
theorem decAs (ds : List D) (h : FitsAll [.int .i64, .int .u32, .int .u64, .int .u32, .int .u32, .int .i64, sh2 16 .i64 .i64, sh3, sh1 8 .i64, .int .i64, .int .i64, .int .i64, .int .i64, .bool, .bool, .int .i64, .int .i64, .int .i64, .int .i64, sh1 8 .i64, sh1 8 .i64, sh2 16 .i64 .i64, sh1 8 .i64, .int .i64, sh1 8 .i64, sh1 8 .i64, sh3, .int .i64, .int .i64, .int .i64, .int .i64, sh1 4 .u32, sh2 16 .u32 .i64, .int .i64, sh2 8 .u32 .u32, sh3, .str, .int .i64, .int .u32, .int .i64, .bool, .int .i64] ds) : ∃ a : As, ds = a.cells ∧ a.se.fits ∧ a.ev.fits := by
 simp only [FitsAll] at h
 obtain ⟨_, _, rfl, h0, _, _, rfl, h1, _, _, rfl, h2, _, _, rfl, h3, _, _, rfl, h4, _, _, rfl, s1, _, _, rfl, s2, _, _, rfl, s3, _, _, rfl, s4, _, _, rfl, s5, _, _, rfl, s6, _, _, rfl, e1, _, _, rfl, e2, _, _, rfl, e3, _, _, rfl, e4, _, _, rfl, e5, _, _, rfl, e6, _, _, rfl, e7, _, _, rfl, e8, _, _, rfl, e9, _, _, rfl, e10, _, _, rfl, e11, _, _, rfl, e12, _, _, rfl, e13, _, _, rfl, e14, _, _, rfl, e15, _, _, rfl, e16, _, _, rfl, q0, _, _, rfl, q1, _, _, rfl, q2, _, _, rfl, q3, _, _, rfl, q4, _, _, rfl, q5, _, _, rfl, q6, _, _, rfl, q7, _, _, rfl, q8, _, _, rfl, t0, _, _, rfl, t1, _, _, rfl, t2, _, _, rfl, t3, _, _, rfl, t4, _, _, rfl, t5, rfl⟩ := h
 obtain ⟨n0, rfl⟩ := fitI h0
 obtain ⟨n1, rfl⟩ := fitI h1
 obtain ⟨n2, rfl⟩ := fitI h2
 obtain ⟨n3, rfl⟩ := fitI h3
 obtain ⟨n4, rfl⟩ := fitI h4
 obtain ⟨m1, rfl⟩ := fitI s1
 obtain ⟨m2, rfl, g_m2⟩ := fit2 (by decide) s2
 obtain ⟨m3, rfl, g_m3⟩ := fit3 s3
 obtain ⟨m4, rfl, g_m4⟩ := fit1 (by decide) s4
 obtain ⟨m5, rfl⟩ := fitI s5
 obtain ⟨m6, rfl⟩ := fitI s6
 obtain ⟨k1, rfl⟩ := fitI e1
 obtain ⟨k2, rfl⟩ := fitI e2
 obtain ⟨k3, rfl⟩ := fitB e3
 obtain ⟨k4, rfl⟩ := fitB e4
 obtain ⟨k5, rfl⟩ := fitI e5
 obtain ⟨k6, rfl⟩ := fitI e6
 obtain ⟨k7, rfl⟩ := fitI e7
 obtain ⟨k8, rfl⟩ := fitI e8
 obtain ⟨k9, rfl, g_k9⟩ := fit1 (by decide) e9
 obtain ⟨k10, rfl, g_k10⟩ := fit1 (by decide) e10
 obtain ⟨k11, rfl, g_k11⟩ := fit2 (by decide) e11
 obtain ⟨k12, rfl, g_k12⟩ := fit1 (by decide) e12
 obtain ⟨k13, rfl⟩ := fitI e13
 obtain ⟨k14, rfl, g_k14⟩ := fit1 (by decide) e14
 obtain ⟨k15, rfl, g_k15⟩ := fit1 (by decide) e15
 obtain ⟨k16, rfl, g_k16⟩ := fit3 e16
 obtain ⟨p0, rfl⟩ := fitI q0
 obtain ⟨p1, rfl⟩ := fitI q1
 obtain ⟨p2, rfl⟩ := fitI q2
 obtain ⟨p3, rfl⟩ := fitI q3
 obtain ⟨p4, rfl, g_p4⟩ := fit1 (by decide) q4
 obtain ⟨p5, rfl, g_p5⟩ := fit2 (by decide) q5
 obtain ⟨p6, rfl⟩ := fitI q6
 obtain ⟨p7, rfl, g_p7⟩ := fit2 (by decide) q7
 obtain ⟨p8, rfl, g_p8⟩ := fit3 q8
 obtain ⟨u0, rfl, _⟩ := fitS t0
 obtain ⟨u1, rfl⟩ := fitI t1
 obtain ⟨u2, rfl⟩ := fitI t2
 obtain ⟨u3, rfl⟩ := fitI t3
 obtain ⟨u4, rfl⟩ := fitB t4
 obtain ⟨u5, rfl⟩ := fitI t5
 exact ⟨⟨n0, n1, n2, n3, n4, ⟨m1, m2, m3, m4, m5, m6⟩, ⟨k1, k2, k3, k4, ⟨k5, k6, k7, k8, k9, k10, k11, k12, k13⟩, k14, k15, k16⟩, ⟨p0, p1, p2, p3, p4, p5, p6, p7, p8⟩, u0, u1, u2, u3, u4, u5⟩, rfl, ⟨g_m2, g_m3, g_m4⟩, ⟨g_k9, g_k10, g_k11, g_k12⟩, g_k14, g_k15, g_k16⟩
theorem law_pure (es : List D) (h : ShapesOf law_shapes es) : PureD Try.prog 5 es (.bool true) := by
 simp only [law_shapes, ShapesOf] at h
 obtain ⟨_, _, rfl, h1, _, _, rfl, h2, rfl⟩ := h
 obtain ⟨s, rfl, hf⟩ := decSt _ h1
 obtain ⟨a, rfl, hs, he⟩ := decAs _ h2
 have hf' := hf
 obtain ⟨f1, f2, f3, f4, f5⟩ := hf
 exact calLaw_p s.t s.us s.ps s.ds a ⟨f1, f2, f3, fun u hu => (f4 u hu).2.1⟩ hf' hs he
end Go.Proofs.Ytoleaiaeghbffaa.applyCalendar
