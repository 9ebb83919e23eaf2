import Derived.Test.YtggchhmgeafoaaaVi1
set_option linter.unusedVariables false
set_option linter.unusedSimpArgs false
set_option linter.unnecessarySimpa false
namespace Go.Vi
open Go Go.RowKit
inductive LO where
 | t (n : Nat)
 | c (d : D)
 deriving Inhabited
def LO.ev (env : Env) : LO → D
 | .t n => lk env n
 | .c d => d
def ofVal1 : Value → Option D
 | .bool b => some (.bool b)
 | .int k n => some (.int k n)
 | .string s => some (.str s)
 | .pointer none => some .nilp
 | .nilFunc => some .nilfn
 | .slice none 0 0 => some (.list (some true) true [])
 | _ => none
def ofVals : List Value → Option (List D)
 | [] => some []
 | v :: vs => match ofVal1 v, ofVals vs with
  | some d, some ds => some (d :: ds)
  | _, _ => none
def ofVal : Value → Option D
 | .agg cs => (ofVals cs.toList).map .agg
 | v => ofVal1 v
def loOf : Operand → Option LO
 | .tmp t => some (.t t)
 | .const v => (ofVal v).map .c
 | .func f => if f < bB then some (.c (.fn f [])) else none
 | .global _ => none
def losOf : List Operand → Option (List LO)
 | [] => some []
 | x :: xs => match loOf x, losOf xs with
  | some l, some ls => some (l :: ls)
  | _, _ => none
inductive FK where
 | int | bool | str
 deriving Inhabited, DecidableEq
inductive ET where
 | bool | ptr | slice | func
 | row (ks : List FK)
 deriving Inhabited
def slitM (sz n : Nat) : Bool := sz == 1 && decide (2 ≤ n)
inductive LK where
 | mov (x : LO)
 | pick (c a b : LO)
 | alloc (zs : List D)
 | box (x : LO)
 | build (zs : List D) (parts : List (Nat × Nat × LO))
 | slit (sz : Nat) (xs : List LO)
 | load (ag : Option Nat) (a : LO)
 | store (n : Nat) (a x : LO)
 | chk (x : LO)
 | bin (op : BinOp) (x y : LO)
 | eq (t : ET) (neg : Bool) (x y : LO)
 | un (op : UnOp) (x : LO)
 | conv (k : IntKind) (x : LO)
 | same (x : LO)
 | b2s (x : LO)
 | mkfn (f : FuncId) (caps : List LO)
 | slice (st : Bool) (sz : Nat) (x : LO) (lo hi : Option LO)
 | faddr (off : Nat) (x : LO)
 | fld (off : Nat) (ag : Option Nat) (x : LO)
 | iaddr (sz : Nat) (x i : LO)
 | idx (x i : LO)
 | ext (i : Nat) (x : LO)
 | len (st : Bool) (x : LO)
 | app (sz bytes : Nat) (s x : LO)
 | appz (sz bytes : Nat) (zs : List D) (s x : LO)
 | slice3 (sz : Nat) (x : LO) (lo : Option LO) (hi mx : LO)
 | cap (x : LO)
 | ovl (x y : LO)
 | copy (sz : Nat) (d s : LO)
 | clear (zs : List D) (x : LO)
 | mks (zs : List D) (bytes : Nat) (n c : LO)
 | mx (x y : LO)
 | mn (x y : LO)
 | call (f : LO) (args : List LO)
 | callX (f : LO) (args : List LO)
 deriving Inhabited
structure LOp where
 dst : Option Nat
 guard : Option (Nat × Bool)
 k : LK
 deriving Inhabited
def D.cells : D → List D
 | .agg cs => cs
 | d => [d]
def D.ok : D → Bool
 | .agg cs => cs.all D.one
 | d => d.one
def D.norm1 : D → D
 | .list _ _ rows => .list none false rows
 | d => d
def D.norm : D → D
 | .agg cs => .agg (cs.map D.norm1)
 | d => d.norm1
def eqCell : FK → D → D → Option Bool
 | .int, .int k a, .int k' b => if k = k' then some (a == b) else none
 | .bool, .bool a, .bool b => some (a == b)
 | .str, .str a, .str b => some (a == b)
 | _, _, _ => none
def eqCells : List FK → List D → List D → Option Bool
 | [], [], [] => some true
 | k :: ks, a :: as, b :: bs => match eqCell k a b, eqCells ks as bs with
  | some x, some y => some (x && y)
  | _, _ => none
 | _, _, _ => none
def bitAnd (k : IntKind) (x y : Int) : Int := k.wrap (BitVec.ofInt k.bits x &&& BitVec.ofInt k.bits y).toNat
def bitOr (k : IntKind) (x y : Int) : Int := k.wrap (BitVec.ofInt k.bits x ||| BitVec.ofInt k.bits y).toNat
def bitXor (k : IntKind) (x y : Int) : Int := k.wrap (BitVec.ofInt k.bits x ^^^ BitVec.ofInt k.bits y).toNat
def binInt (op : BinOp) (k : IntKind) (x : Int) (k' : IntKind) (y : Int) : Option (Prop × D) :=
 match op with
 | .add => if k = k' then some (True, .int k (k.wrap (x + y))) else none
 | .sub => if k = k' then some (True, .int k (k.wrap (x - y))) else none
 | .mul => if k = k' then some (True, .int k (k.wrap (x * y))) else none
 | .quo => if k = k' then some (y ≠ 0, .int k (k.wrap (x.tdiv y))) else none
 | .rem => if k = k' then some (y ≠ 0, .int k (x.tmod y)) else none
 | .and => if k = k' then some (True, .int k (bitAnd k x y)) else none
 | .or => if k = k' then some (True, .int k (bitOr k x y)) else none
 | .xor => if k = k' then some (True, .int k (bitXor k x y)) else none
 | .andNot => none
 | .shl => some (0 ≤ y, .int k (k.wrap (x * 2 ^ (min y.toNat k.bits))))
 | .shr => some (0 ≤ y, .int k (x.fdiv (2 ^ (min y.toNat k.bits))))
 | .eql => if k = k' then some (True, .bool (x == y)) else none
 | .neq => if k = k' then some (True, .bool (x != y)) else none
 | .lss => if k = k' then some (True, .bool (decide (x < y))) else none
 | .leq => if k = k' then some (True, .bool (decide (x ≤ y))) else none
 | .gtr => if k = k' then some (True, .bool (decide (x > y))) else none
 | .geq => if k = k' then some (True, .bool (decide (x ≥ y))) else none
def binStr (op : BinOp) (s t : ByteArray) : Option (Prop × D) :=
 match op with
 | .add => some (s.size + t.size ≤ 9223372036854775807, .str (s ++ t))
 | .eql => some (True, .bool (s == t))
 | .neq => some (True, .bool (!(s == t)))
 | _ => none
def eqD : ET → D → D → Option Bool
 | .bool, .bool p, .bool q => some (p == q)
 | .ptr, .nilp, .nilp => some true
 | .ptr, .ptr _ _ _ _, .nilp | .ptr, .nilp, .ptr _ _ _ _ | .ptr, .elt _ _, .nilp | .ptr, .nilp, .elt _ _ => some false
 | .slice, .list (some b) _ _, .list (some true) true [] => some b
 | .func, .nilfn, .nilfn => some true
 | .func, .fn _ _, .nilfn | .func, .nilfn, .fn _ _ => some false
 | .row ks, .agg xs, .agg ys => eqCells ks xs ys
 | _, _, _ => none
def binD (op : BinOp) (a b : D) : Option (Prop × D) :=
 match a, b with
 | .int k x, .int k' y => binInt op k x k' y
 | .str s, .str t => binStr op s t
 | _, _ => none
def unD (op : UnOp) (a : D) : Option D :=
 match op, a with
 | .neg, .int k n => some (.int k (k.wrap (0 - n)))
 | .not, .bool b => some (.bool (!b))
 | .xor, .int k n => some (.int k (k.wrap (BitVec.ofInt k.bits (if k.signed then -1 else k.max) ^^^ BitVec.ofInt k.bits n).toNat))
 | _, _ => none
def splice (r : List D) (i : Nat) (cs : List D) : List D := r.take i ++ cs ++ r.drop (i + cs.length)
def fillD (ρ : LO → D) : List D → List (Nat × Nat × LO) → Option (List D)
 | zs, [] => some zs
 | zs, (off, n, x) :: rest => if (ρ x).ok = true ∧ (ρ x).cells.length = n ∧ off + n ≤ zs.length then fillD ρ (splice zs off (ρ x).cells) rest else none
def bt (s : ByteArray) (i : Int) : Int := ((s.data.toList[i.toNat]?).getD 0).toNat
def loadRow (r : List D) (i : Nat) (ag : Option Nat) (K : D → Prop) : Prop :=
 match ag with
 | none => match r[i]? with
  | some d => K d
  | none => False
 | some n => i + n ≤ r.length ∧ K (.agg ((r.drop i).take n))
def bnd (x : Option D) (z : Nat) (K : Int → Prop) : Prop :=
 match x with
 | none => K z
 | some (.int _ n) => K n
 | some _ => False
def bytesOf : List (List D) → Option (List UInt8)
 | [] => some []
 | [.int .u8 n] :: rest => (bytesOf rest).map (UInt8.ofNat n.toNat :: ·)
 | _ => none
def winD (i k n : Nat) (rows : List (List D)) : List (List D) := if i = 0 ∧ k = n then rows else (rows.drop i).take k
theorem winD_length {i k n : Nat} {rows : List (List D)} (hn : rows.length = n) (h : i + k ≤ n) : (winD i k n rows).length = k := by
 unfold winD; split
 ·omega
 ·simp; omega
theorem winD_get {i k n : Nat} {rows : List (List D)} (hn : rows.length = n) {j : Nat} {r : List D} (h : (winD i k n rows)[j]? = some r) : rows[i + j]? = some r ∧ j < k := by
 unfold winD at h; split at h
 ·rename_i hc
  have := (List.getElem?_eq_some_iff.1 h).1
  refine ⟨by rw [hc.1, Nat.zero_add]; exact h, by omega⟩
 ·rw [List.getElem?_take] at h
  split at h
  ·rw [List.getElem?_drop] at h; exact ⟨h, by assumption⟩
  ·cases h
theorem winD_mem {i k n : Nat} {rows : List (List D)} {r : List D} (h : r ∈ winD i k n rows) : r ∈ rows := by
 unfold winD at h; split at h
 ·exact h
 ·exact List.mem_of_mem_drop (List.mem_of_mem_take h)
def viewS (σ : List Ob) : D → Option (List (List D))
 | .list _ _ rows => some rows
 | .own l i k n _ _ => match σ[l]? with
  | some o => if o.rows.length = n ∧ (o.pure || (winD i k n o.rows).all fun r => r.all D.pt1) = true then some (winD i k n o.rows) else none
  | none => none
 | _ => none
def newsD (σ : List Ob) : D → Option (List (List D) × Bool)
 | .list _ _ new => some (new, true)
 | .str s => some (s.data.toList.map (fun b => [.int .u8 b.toNat]), true)
 | .own l i k n _ _ => match σ[l]? with
  | some o => if o.rows.length = n ∧ (o.pure || (winD i k n o.rows).all fun r => r.all D.one) = true then some (winD i k n o.rows, o.pure) else none
  | none => none
 | _ => none
def newsC (σ : List Ob) : D → Option (List (List D) × Bool)
 | .list _ _ new => some (new, true)
 | .str s => some (s.data.toList.map (fun b => [.int .u8 b.toNat]), true)
 | .own l i k n _ _ => match σ[l]? with
  | some o => if o.rows.length = n then some (winD i k n o.rows, o.pure) else none
  | none => none
 | _ => none
def appOwn (sz : Nat) (new : List (List D)) (pu : Bool) (l i k n : Nat) (cl : Option Nat) (o : Ob) (σ : List Ob) (K : D → List Ob → Prop) : Prop :=
 if i = 0 ∧ k = n ∧ cl = none then
  o.fz = false ∧ K (.own l 0 (n + new.length) (n + new.length) sz none) (σ.set l { o with real := o.real || !new.isEmpty, nl := o.nl && new.isEmpty, pure := o.pure && pu, rows := o.rows ++ new, spare := none })
 else
  (o.fz = false ∧ i + k + new.length ≤ n ∧ (∀ e, cl = some e → i + k + new.length ≤ e) ∧ K (.own l i (k + new.length) n sz cl) (σ.set l { o with pure := o.pure && pu, rows := o.rows.take (i + k) ++ new ++ o.rows.drop (i + k + new.length) })) ∨
  (new = [] ∧ K (.own l i k n sz cl) σ) ∨
  (o.fz = false ∧ o.real = true ∧ cl = none ∧ n < i + k + new.length ∧ (∃ c, o.spare = some c ∧ i + k + new.length ≤ n + c) ∧ K (.own l i (k + new.length) (i + k + new.length) sz none)
   (σ.set l { o with pure := o.pure && pu, rows := o.rows.take (i + k) ++ new, spare := o.spare.map fun c => n + c - (i + k + new.length) })) ∨
  (0 < new.length ∧ o.real = true ∧ ((∃ e, cl = some e ∧ e < i + k + new.length) ∨ (cl = none ∧ ∃ c, o.spare = some c ∧ n + c < i + k + new.length)) ∧ (o.pure || (winD i k n o.rows).all fun r => r.all D.one) = true ∧
   K (.own σ.length 0 (k + new.length) (k + new.length) sz none) (σ ++ [⟨true, false, o.pure && pu, false, sz, winD i k n o.rows ++ new, none⟩]))
def appRun (sz bytes : Nat) (new : List (List D)) (pu : Bool) (s : D) (σ : List Ob) (K : D → List Ob → Prop) : Prop :=
 (∀ r ∈ new, r.length = sz) ∧ 0 < sz ∧ match s with
  | .list (some b) true [] => new.length * bytes ≤ 140737488355328 ∧ new.length ≤ 9223372036854775807 ∧
    K (.own σ.length 0 new.length new.length sz none) (σ ++ [⟨!new.isEmpty, b && new.isEmpty, pu, false, sz, new, none⟩])
  | .own l i k n z cl => z = sz ∧ match σ[l]? with
   | some o => o.rows.length = n ∧ (k + new.length) * bytes ≤ 140737488355328 ∧ k + new.length ≤ 9223372036854775807 ∧ appOwn sz new pu l i k n cl o σ K
   | none => False
  | _ => False
def eqO (σ : List Ob) (t : ET) (x y : D) : Option Bool :=
 match t, x, y with
 | .slice, .own l _ _ n _ _, .list (some true) true [] => match σ[l]? with
  | some o => if o.rows.length = n then some (!o.real && o.nl) else none
  | none => none
 | t, x, y => eqD t x y
def LK.run (dr : Bool) (k : LK) (ρ : LO → D) (σ : List Ob) (K : D → List Ob → Prop) : Prop :=
 match k with
 | .mov x => K (ρ x) σ
 | .pick c a b => match ρ c with
  | .bool v => K (bif v then ρ a else ρ b) σ
  | _ => False
 | .alloc zs => zs ≠ [] ∧ K (.ptr σ.length 0 0 1) (σ ++ [⟨true, false, zs.all D.pt1, false, zs.length, [zs], some 0⟩])
 | .box x => (ρ x).cells ≠ [] ∧ (ρ x).ok = true ∧ K (.ptr σ.length 0 0 1) (σ ++ [⟨true, false, (ρ x).cells.all D.pt1, false, (ρ x).cells.length, [(ρ x).cells], some 0⟩])
 | .build zs parts => match fillD ρ zs parts with
  | some cs => K (.agg cs) σ
  | none => False
 | .slit sz xs => 0 < sz ∧ (∀ x ∈ xs, (ρ x).cells.length = sz ∧ (ρ x).ok = true) ∧
   if (xs.all fun x => (ρ x).pt) = true then K (.list (some false) true (xs.map fun x => (ρ x).cells.map D.norm1)) σ
   else (dr = false ∨ slitM sz xs.length = true) ∧ K (.own σ.length 0 xs.length xs.length sz none) (σ ++ [⟨true, false, false, false, sz, xs.map fun x => (ρ x).cells, some 0⟩])
 | .load ag a => match ρ a with
  | .elt r i => loadRow r i ag fun d => K d σ
  | .ptr l j i n => match σ[l]? with
   | some o => o.rows.length = n ∧ o.real = true ∧ j < n ∧ ∀ r, o.rows[j]? = some r → loadRow r i ag fun d => K d σ
   | none => False
  | _ => False
 | .store n a x => match ρ a with
  | .ptr l j i m => match σ[l]? with
   | some o => o.rows.length = m ∧ o.real = true ∧ o.fz = false ∧ (ρ x).cells.length = n ∧ i + n ≤ o.sz ∧ (ρ x).ok = true ∧ j < m ∧
     ∀ r, o.rows[j]? = some r → K .undef (σ.set l { o with pure := o.pure && (ρ x).cells.all D.pt1, rows := o.rows.set j (splice r i (ρ x).cells) })
   | none => False
  | _ => False
 | .chk x => match ρ x with
  | .ptr l j i n => K (.ptr l j i n) σ
  | .elt r i => K (.elt r i) σ
  | .fn f cs => K (.fn f cs) σ
  | _ => False
 | .bin op x y => match binD op (ρ x) (ρ y) with
  | some (p, d) => p ∧ K d σ
  | none => False
 | .eq t neg x y => match eqO σ t (ρ x) (ρ y) with
  | some b => K (.bool (bif neg then !b else b)) σ
  | none => False
 | .un op x => match unD op (ρ x) with
  | some d => K d σ
  | none => False
 | .conv k x => match ρ x with
  | .int _ n => K (.int k (k.wrap n)) σ
  | _ => False
 | .same x => match ρ x with
  | .str s => K (.str s) σ
  | _ => False
 | .b2s x => match viewS σ (ρ x) with
  | some rows => match bytesOf rows with
   | some l => K (.str ⟨l.toArray⟩) σ
   | none => False
  | none => False
 | .mkfn f caps => K (.fn f (caps.map ρ)) σ
 | .slice st sz x lo hi => match ρ x with
  | .str s => st = true ∧ bnd (lo.map ρ) 0 fun l => bnd (hi.map ρ) s.size fun h => 0 ≤ l ∧ l ≤ h ∧ h ≤ s.size ∧ K (.str (s.extract l.toNat h.toNat)) σ
  | .list nl _ rows => st = false ∧ 0 < sz ∧ (∀ r ∈ rows, r.length = sz) ∧ bnd (lo.map ρ) 0 fun l => bnd (hi.map ρ) rows.length fun h => 0 ≤ l ∧ l ≤ h ∧ h ≤ rows.length ∧ K (.list nl false ((rows.take h.toNat).drop l.toNat)) σ
  | .own l' i k n z cl => st = false ∧ z = sz ∧ bnd (lo.map ρ) 0 fun l => bnd (hi.map ρ) k fun h => 0 ≤ l ∧ l ≤ h ∧
    ((h ≤ k ∧ K (.own l' (i + l.toNat) (h.toNat - l.toNat) n z cl) σ) ∨
     (dr = false ∧ (k : Int) < h ∧ cl = none ∧ match σ[l']? with
     | some o => o.rows.length = n ∧ o.real = true ∧
      ((i + h.toNat ≤ n ∧ K (.own l' (i + l.toNat) (h.toNat - l.toNat) n z cl) σ) ∨
       (o.fz = false ∧ n < i + h.toNat ∧ ∃ c, o.spare = some c ∧ i + h.toNat ≤ n + c ∧ K (.own l' (i + l.toNat) (h.toNat - l.toNat) (i + h.toNat) z cl)
         (σ.set l' { o with pure := false, rows := o.rows ++ List.replicate (i + h.toNat - n) (List.replicate sz .undef), spare := some (n + c - (i + h.toNat)) })))
     | none => False))
  | _ => False
 | .slice3 sz x lo hi m3 => match ρ x with
  | .list nl _ rows => 0 < sz ∧ (∀ r ∈ rows, r.length = sz) ∧ bnd (lo.map ρ) 0 fun l => bnd (some (ρ hi)) 0 fun h => bnd (some (ρ m3)) 0 fun m => 0 ≤ l ∧ l ≤ h ∧ h ≤ m ∧ m ≤ rows.length ∧ K (.list nl (decide (h = m)) ((rows.take h.toNat).drop l.toNat)) σ
  | .own l' i k n z cl => z = sz ∧ bnd (lo.map ρ) 0 fun l => bnd (some (ρ hi)) 0 fun h => bnd (some (ρ m3)) 0 fun m => 0 ≤ l ∧ l ≤ h ∧ h ≤ m ∧ m ≤ k ∧ K (.own l' (i + l.toNat) (h.toNat - l.toNat) n z (some (i + m.toNat))) σ
  | _ => False
 | .cap x => dr = false ∧ match ρ x with
  | .own l i k n z cl => match σ[l]? with
   | some o => o.rows.length = n ∧ match cl with
    | some e => o.real = true ∧ K (.int .i64 (e - i : Nat)) σ
    | none => if o.real = true then match o.spare with
      | some c => K (.int .i64 (n + c - i : Nat)) σ
      | none => o.fz = false ∧ ∀ c : Nat, n + c ≤ 9223372036854775807 → K (.int .i64 (n + c - i : Nat)) (σ.set l { o with spare := some c })
     else K (.int .i64 0) σ
   | none => False
  | _ => False
 | .ovl x y => dr = false ∧ match ρ x, ρ y with
  | .list _ _ rows, .own l _ _ n z _ => (0 < z ∧ ∀ r ∈ rows, r ≠ []) ∧ match σ[l]? with
   | some o => o.rows.length = n ∧ o.real = true ∧ o.fz = false ∧ K (.bool false) σ
   | none => False
  | _, _ => False
 | .copy sz x y => match newsC σ (ρ y) with
  | some (new, pu) => (∀ r ∈ new, r.length = sz) ∧ match ρ x with
   | .own l i k n z cl => z = sz ∧ match σ[l]? with
    | some o => o.rows.length = n ∧ o.fz = false ∧ (pu || (new.take k).all fun r => r.all D.one) = true ∧ K (.int .i64 (min new.length k : Nat)) (σ.set l { o with pure := o.pure && pu, rows := o.rows.take i ++ new.take k ++ o.rows.drop (i + min new.length k) })
    | none => False
   | .list _ _ [] => K (.int .i64 0) σ
   | _ => False
  | none => False
 | .clear zs x => match ρ x with
  | .own l i k n z cl => z = zs.length ∧ match σ[l]? with
   | some o => o.rows.length = n ∧ o.fz = false ∧ K (.tup []) (σ.set l { o with pure := o.pure && zs.all D.pt1, rows := o.rows.take i ++ List.replicate k zs ++ o.rows.drop (i + k) })
   | none => False
  | .list _ _ [] => K (.tup []) σ
  | _ => False
 | .mks zs bytes n c => match ρ n, ρ c with
  | .int _ a, .int _ b => zs ≠ [] ∧ 0 ≤ a ∧ a ≤ b ∧ b * bytes ≤ 140737488355328 ∧ b ≤ 9223372036854775807 ∧ K (.own σ.length 0 a.toNat a.toNat zs.length none) (σ ++ [⟨true, false, zs.all D.pt1, false, zs.length, List.replicate a.toNat zs, some (b.toNat - a.toNat)⟩])
  | _, _ => False
 | .faddr off x => match ρ x with
  | .ptr l j i n => K (.ptr l j (i + off) n) σ
  | .elt r i => K (.elt r (i + off)) σ
  | _ => False
 | .fld off ag x => match ρ x with
  | .agg cs => loadRow cs off ag fun d => K d σ
  | _ => False
 | .iaddr sz x i => match ρ x, ρ i with
  | .list _ _ rows, .int _ n => 0 ≤ n ∧ n < rows.length ∧ ∀ r, rows[n.toNat]? = some r → r.length = sz ∧ K (.elt r 0) σ
  | .own l i k m z _, .int _ n => z = sz ∧ 0 ≤ n ∧ n < k ∧ K (.ptr l (i + n.toNat) 0 m) σ
  | _, _ => False
 | .idx x i => match ρ x, ρ i with
  | .str s, .int _ n => 0 ≤ n ∧ n < s.size ∧ K (.int .u8 (bt s n)) σ
  | _, _ => False
 | .ext i x => match ρ x with
  | .tup ds => match ds[i]? with
   | some d => K d σ
   | none => False
  | _ => False
 | .len st x => match ρ x with
  | .str s => st = true ∧ K (.int .i64 s.size) σ
  | .list _ _ rows => st = false ∧ K (.int .i64 rows.length) σ
  | .own _ _ k _ _ _ => st = false ∧ K (.int .i64 k) σ
  | _ => False
 | .app sz bytes s x => match newsD σ (ρ x) with
  | some (new, pu) => appRun sz bytes new pu (ρ s) σ K
  | none => False
 | .appz sz bytes zs s x => match ρ x with
  | .int k n => (k = .i64 ∧ zs.length = sz ∧ 0 ≤ n ∧ n * bytes ≤ 140737488355328 ∧ n ≤ 9223372036854775807) ∧ appRun sz bytes (List.replicate n.toNat zs) (zs.all D.pt1) (ρ s) σ K
  | _ => False
 | .mx x y => match ρ x, ρ y with
  | .int k a, .int _ b => K (.int k (if b > a then b else a)) σ
  | _, _ => False
 | .mn x y => match ρ x, ρ y with
  | .int k a, .int _ b => K (.int k (if b < a then b else a)) σ
  | _, _ => False
 | .call _ _ => False
 | .callX _ _ => False
end Go.Vi
