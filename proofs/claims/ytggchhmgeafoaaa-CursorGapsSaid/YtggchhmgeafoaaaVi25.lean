import Derived.Test.YtggchhmgeafoaaaVi24
set_option linter.unusedVariables false
set_option linter.unusedSimpArgs false
set_option linter.unnecessarySimpa false
namespace Go.Vi
open Go
def oo (d : Nat) (k : LK) : LOp := ⟨some d, none, k⟩
def om (d s : Nat) : LOp := ⟨some d, none, .mov (.t s)⟩
def ol (d s : Nat) : LOp := ⟨some d, none, .load none (.t s)⟩
def oa (d i s : Nat) : LOp := ⟨some d, none, .faddr i (.t s)⟩
def on (d s : Nat) : LOp := ⟨some d, none, .len false (.t s)⟩
def og (d t : Nat) (b : Bool) (k : LK) : LOp := ⟨some d, some (t, b), k⟩
def gm (d t : Nat) (b : Bool) (s : Nat) : LOp := ⟨some d, some (t, b), .mov (.t s)⟩
def gl (d t : Nat) (b : Bool) (s : Nat) : LOp := ⟨some d, some (t, b), .load none (.t s)⟩
def ga (d t : Nat) (b : Bool) (i s : Nat) : LOp := ⟨some d, some (t, b), .faddr i (.t s)⟩
def kc (d f : Nat) (a : List LO) : LOp := ⟨some d, none, .call (.c (.fn f [])) a⟩
def kx (d f : Nat) (a : List LO) : LOp := ⟨some d, none, .callX (.c (.fn f [])) a⟩
def gk (d t : Nat) (b : Bool) (f : Nat) (a : List LO) : LOp := ⟨some d, some (t, b), .call (.c (.fn f [])) a⟩
def kk (d s : Nat) : LOp := ⟨some d, none, .chk (.t s)⟩
def kb (d : Nat) (o : BinOp) (x y : Nat) : LOp := ⟨some d, none, .bin o (.t x) (.t y)⟩
def pf (d x y : Nat) : LOp := ⟨some d, none, .pick (.t x) (.t y) (.c (.bool false))⟩
def pt (d x y : Nat) : LOp := ⟨some d, none, .pick (.t x) (.c (.bool true)) (.t y)⟩
theorem oo_def {d : Nat} {k : LK} : oo d k = ⟨some d, none, k⟩ := id rfl
theorem om_def {d s : Nat} : om d s = ⟨some d, none, .mov (.t s)⟩ := id rfl
theorem ol_def {d s : Nat} : ol d s = ⟨some d, none, .load none (.t s)⟩ := id rfl
theorem oa_def {d i s : Nat} : oa d i s = ⟨some d, none, .faddr i (.t s)⟩ := id rfl
theorem on_def {d s : Nat} : on d s = ⟨some d, none, .len false (.t s)⟩ := id rfl
theorem og_def {d t : Nat} {b : Bool} {k : LK} : og d t b k = ⟨some d, some (t, b), k⟩ := id rfl
theorem gm_def {d t : Nat} {b : Bool} {s : Nat} : gm d t b s = ⟨some d, some (t, b), .mov (.t s)⟩ := id rfl
theorem gl_def {d t : Nat} {b : Bool} {s : Nat} : gl d t b s = ⟨some d, some (t, b), .load none (.t s)⟩ := id rfl
theorem ga_def {d t : Nat} {b : Bool} {i s : Nat} : ga d t b i s = ⟨some d, some (t, b), .faddr i (.t s)⟩ := id rfl
theorem kc_def {d f : Nat} {a : List LO} : kc d f a = ⟨some d, none, .call (.c (.fn f [])) a⟩ := id rfl
theorem kx_def {d f : Nat} {a : List LO} : kx d f a = ⟨some d, none, .callX (.c (.fn f [])) a⟩ := id rfl
theorem gk_def {d t : Nat} {b : Bool} {f : Nat} {a : List LO} : gk d t b f a = ⟨some d, some (t, b), .call (.c (.fn f [])) a⟩ := id rfl
theorem kk_def {d s : Nat} : kk d s = ⟨some d, none, .chk (.t s)⟩ := id rfl
theorem kb_def {d : Nat} {o : BinOp} {x y : Nat} : kb d o x y = ⟨some d, none, .bin o (.t x) (.t y)⟩ := id rfl
theorem pf_def {d x y : Nat} : pf d x y = ⟨some d, none, .pick (.t x) (.t y) (.c (.bool false))⟩ := id rfl
theorem pt_def {d x y : Nat} : pt d x y = ⟨some d, none, .pick (.t x) (.c (.bool true)) (.t y)⟩ := id rfl
end Go.Vi
