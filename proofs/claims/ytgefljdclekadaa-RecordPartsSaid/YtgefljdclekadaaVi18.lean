import Derived.Test.YtgefljdclekadaaVi17
set_option linter.unusedVariables false
set_option linter.unusedSimpArgs false
set_option linter.unnecessarySimpa false
namespace Go.Vi
open Go Go.RowKit
def eG (r : List D) (i : Nat) : Option Nat → Option (Prop × D)
 | none => match r[i]? with
  | some d => some (True, d)
  | none => none
 | some n => some (i + n ≤ r.length, .agg ((r.drop i).take n))
def eu : Option D → Nat → Option Int
 | none, z => some z
 | some (.int _ n), _ => some n
 | some _, _ => none
def aU (b : Bool) (sz : Nat) (pu : Bool) (rows : List (List D)) : Ob := ⟨!rows.isEmpty, b && rows.isEmpty, pu, false, sz, rows, none⟩
theorem hU {b : Bool} {sz : Nat} {pu : Bool} {rows : List (List D)} : (aU b sz pu rows).real = !rows.isEmpty := id rfl
theorem mE {b : Bool} {sz : Nat} {pu : Bool} {rows : List (List D)} : (aU b sz pu rows).nl = (b && rows.isEmpty) := id rfl
theorem cu {b : Bool} {sz : Nat} {pu : Bool} {rows : List (List D)} : (aU b sz pu rows).pure = pu := id rfl
theorem mB {b : Bool} {sz : Nat} {pu : Bool} {rows : List (List D)} : (aU b sz pu rows).fz = false := id rfl
theorem mQ {b : Bool} {sz : Nat} {pu : Bool} {rows : List (List D)} : (aU b sz pu rows).sz = sz := id rfl
theorem cn {b : Bool} {sz : Nat} {pu : Bool} {rows : List (List D)} : (aU b sz pu rows).rows = rows := id rfl
theorem gn {b : Bool} {sz : Nat} {pu : Bool} {rows : List (List D)} : (aU b sz pu rows).spare = none := id rfl
def eZ (st : Bool) (sz : Nat) : D → Option Int → Option Int → Option (Prop × D)
 | .str s, some l, some h => some (st = true ∧ 0 ≤ l ∧ l ≤ h ∧ h ≤ s.size, .str (s.extract l.toNat h.toNat))
 | .list nl _ rows, some l, some h => some (st = false ∧ 0 < sz ∧ (∀ r ∈ rows, r.length = sz) ∧ 0 ≤ l ∧ l ≤ h ∧ h ≤ rows.length, .list nl false ((rows.take h.toNat).drop l.toNat))
 | _, _, _ => none
def mj : D → D → D → Option (Prop × D)
 | .bool v, a, b => some (True, bif v then a else b)
 | _, _, _ => none
def kQ : D → Option (Prop × D)
 | .ptr l j i n => some (True, .ptr l j i n)
 | .elt r i => some (True, .elt r i)
 | .fn f cs => some (True, .fn f cs)
 | _ => none
def lp (k : IntKind) : D → Option (Prop × D)
 | .int _ n => some (True, .int k (k.wrap n))
 | _ => none
def lw : D → Option (Prop × D)
 | .str s => some (True, .str s)
 | _ => none
def rl : Option (List (List D)) → Option (Prop × D)
 | some rows => match bytesOf rows with
  | some l => some (True, .str ⟨l.toArray⟩)
  | none => none
 | none => none
def gk (off : Nat) : D → Option (Prop × D)
 | .ptr l j i n => some (True, .ptr l j (i + off) n)
 | .elt r i => some (True, .elt r (i + off))
 | _ => none
def qG (off : Nat) (ag : Option Nat) : D → Option (Prop × D)
 | .agg cs => eG cs off ag
 | _ => none
def qn : D → D → Option (Prop × D)
 | .str s, .int _ n => some (0 ≤ n ∧ n < s.size, .int .u8 (bt s n))
 | _, _ => none
def qo (i : Nat) : D → Option (Prop × D)
 | .tup ds => match ds[i]? with
  | some d => some (True, d)
  | none => none
 | _ => none
def kW (st : Bool) : D → Option (Prop × D)
 | .str s => some (st = true, .int .i64 s.size)
 | .list _ _ rows => some (st = false, .int .i64 rows.length)
 | .own _ _ k _ _ _ => some (st = false, .int .i64 k)
 | _ => none
def yp : D → D → Option (Prop × D)
 | .int k a, .int _ b => some (True, .int k (if b > a then b else a))
 | _, _ => none
def ym : D → D → Option (Prop × D)
 | .int k a, .int _ b => some (True, .int k (if b < a then b else a))
 | _, _ => none
def yj : Option D → Option (Prop × D)
 | some d => some (True, d)
 | none => none
def qj : Option (List D) → Option (Prop × D)
 | some cs => some (True, .agg cs)
 | none => none
def lg : Option Bool → Option (Prop × D)
 | some b => some (True, .bool b)
 | none => none
def yz (neg : Bool) : Option Bool → Option Bool
 | some b => some (bif neg then !b else b)
 | none => none
def bA (P : Program) (dr : Bool) (r : Option (Prop × D)) (dst : Option Nat) (os : List LOp) (K : bv → List Ob → Prop) (env : bv) (σ : List Ob) : Prop :=
 match r with
 | some (p, d) => p ∧ aB P dr os K (put env dst d) σ
 | none => False
section
variable {P : Program} {dr : Bool} {dst : Option Nat} {os : List LOp} {K : bv → List Ob → Prop} {env : bv} {σ : List Ob}
theorem kw {p : Prop} {d : D} : bA P dr (some (p, d)) dst os K env σ = (p ∧ aB P dr os K (put env dst d) σ) := id rfl
theorem tr : aB P dr [] K env σ = K env σ := id rfl
theorem tI {x : LO} : aB P dr (⟨dst, none, .mov x⟩ :: os) K env σ = aB P dr os K (put env dst (x.ev env)) σ := id rfl
theorem pU {f : FuncId} {caps : List LO} : aB P dr (⟨dst, none, .mkfn f caps⟩ :: os) K env σ = aB P dr os K (put env dst (.fn f (caps.map (LO.ev env)))) σ := id rfl
theorem fh {r : List D} {i : Nat} {ag : Option Nat} {K : D → Prop} : bP r i ag K = match eG r i ag with
  | some (p, d) => p ∧ K d
  | none => False := by
 cases ag with
 | none => simp only [bP, eG]; cases r[i]? <;> simp
 | some n => simp [bP, eG]
theorem pD {x : Option D} {z : Nat} {K : Int → Prop} : kP x z K = match eu x z with
  | some n => K n
  | none => False := by
 unfold kP eu
 cases x with
 | none => rfl
 | some d => cases d <;> rfl
theorem pm {c a b : LO} : aB P dr (⟨dst, none, .pick c a b⟩ :: os) K env σ = bA P dr (mj (c.ev env) (a.ev env) (b.ev env)) dst os K env σ := by
 simp only [aB, LK.step, LK.run, bA]
 cases c.ev env <;> simp [mj]
theorem nf {zs : List D} {ps : List (Nat × Nat × LO)} : aB P dr (⟨dst, none, .build zs ps⟩ :: os) K env σ = bA P dr (qj (fU (LO.ev env) zs ps)) dst os K env σ := by
 simp only [aB, LK.step, LK.run, bA]
 cases fU (LO.ev env) zs ps <;> simp [qj]
def lq (P : Program) (dr : Bool) (sz : Nat) (ds : List D) (pt : Bool) (dst : Option Nat) (os : List LOp) (K : bv → List Ob → Prop) (env : bv) (σ : List Ob) : Prop :=
 if pt = true then aB P dr os K (put env dst (.list (some false) true (ds.map fun x => x.cells.map D.norm1))) σ
 else dr = false ∧ aB P dr os K (put env dst (.own σ.length 0 ds.length ds.length sz none)) (σ ++ [⟨true, false, false, false, sz, ds.map D.cells, some 0⟩])
theorem py {sz : Nat} {ds : List D} : lq P dr sz ds true dst os K env σ = aB P dr os K (put env dst (.list (some false) true (ds.map fun x => x.cells.map D.norm1))) σ := by simp [lq]
theorem pq {sz : Nat} {ds : List D} : lq P false sz ds false dst os K env σ = aB P false os K (put env dst (.own σ.length 0 ds.length ds.length sz none)) (σ ++ [⟨true, false, false, false, sz, ds.map D.cells, some 0⟩]) := by simp [lq]
theorem pT {sz : Nat} {xs : List LO} : aB P dr (⟨dst, none, .slit sz xs⟩ :: os) K env σ = ((0 < sz ∧ ∀ x ∈ xs.map (LO.ev env), x.cells.length = sz ∧ x.ok = true) ∧
  lq P dr sz (xs.map (LO.ev env)) ((xs.map (LO.ev env)).all D.pt) dst os K env σ) := by
 simp only [aB, LK.step, LK.run, lq]
 simp [and_assoc, Function.comp_def]
theorem rW {x : LO} : aB P dr (⟨dst, none, .chk x⟩ :: os) K env σ = bA P dr (kQ (x.ev env)) dst os K env σ := by
 simp only [aB, LK.step, LK.run, bA]
 cases x.ev env <;> simp [kQ]
theorem sQ {op : BinOp} {x y : LO} : aB P dr (⟨dst, none, .bin op x y⟩ :: os) K env σ = bA P dr (de op (x.ev env) (y.ev env)) dst os K env σ := by
 simp only [aB, LK.step, LK.run, bA]
 cases de op (x.ev env) (y.ev env) <;> rfl
theorem vT {t : ET} {neg : Bool} {x y : LO} : aB P dr (⟨dst, none, .eq t neg x y⟩ :: os) K env σ = bA P dr (lg (yz neg (oe σ t (x.ev env) (y.ev env)))) dst os K env σ := by
 simp only [aB, LK.step, LK.run, bA]
 cases oe σ t (x.ev env) (y.ev env) <;> simp [lg, yz]
theorem wc {op : UnOp} {x : LO} : aB P dr (⟨dst, none, .un op x⟩ :: os) K env σ = bA P dr (yj (rz op (x.ev env))) dst os K env σ := by
 simp only [aB, LK.step, LK.run, bA]
 cases rz op (x.ev env) <;> simp [yj]
theorem pO {k : IntKind} {x : LO} : aB P dr (⟨dst, none, .conv k x⟩ :: os) K env σ = bA P dr (lp k (x.ev env)) dst os K env σ := by
 simp only [aB, LK.step, LK.run, bA]
 cases x.ev env <;> simp [lp]
theorem pN {x : LO} : aB P dr (⟨dst, none, .same x⟩ :: os) K env σ = bA P dr (lw (x.ev env)) dst os K env σ := by
 simp only [aB, LK.step, LK.run, bA]
 cases x.ev env <;> simp [lw]
theorem rF {x : LO} : aB P dr (⟨dst, none, .b2s x⟩ :: os) K env σ = bA P dr (rl (dH σ (x.ev env))) dst os K env σ := by
 simp only [aB, LK.step, LK.run, bA]
 cases dH σ (x.ev env) <;> simp [rl]
 rename_i rows
 cases bytesOf rows <;> simp
theorem nw {off : Nat} {x : LO} : aB P dr (⟨dst, none, .faddr off x⟩ :: os) K env σ = bA P dr (gk off (x.ev env)) dst os K env σ := by
 simp only [aB, LK.step, LK.run, bA]
 cases x.ev env <;> simp [gk]
theorem tp {off : Nat} {ag : Option Nat} {x : LO} : aB P dr (⟨dst, none, .fld off ag x⟩ :: os) K env σ = bA P dr (qG off ag (x.ev env)) dst os K env σ := by
 simp only [aB, LK.step, LK.run, bA]
 cases x.ev env <;> simp [qG, fh]
theorem tG {x i : LO} : aB P dr (⟨dst, none, .idx x i⟩ :: os) K env σ = bA P dr (qn (x.ev env) (i.ev env)) dst os K env σ := by
 simp only [aB, LK.step, LK.run, bA]
 cases x.ev env <;> cases i.ev env <;> simp [qn, and_assoc]
theorem tz {i : Nat} {x : LO} : aB P dr (⟨dst, none, .ext i x⟩ :: os) K env σ = bA P dr (qo i (x.ev env)) dst os K env σ := by
 simp only [aB, LK.step, LK.run, bA]
 cases x.ev env <;> simp [qo]
 rename_i ds
 cases ds[i]? <;> simp
theorem tJ {st : Bool} {x : LO} : aB P dr (⟨dst, none, .len st x⟩ :: os) K env σ = bA P dr (kW st (x.ev env)) dst os K env σ := by
 simp only [aB, LK.step, LK.run, bA]
 cases x.ev env <;> simp [kW]
theorem vz {x y : LO} : aB P dr (⟨dst, none, .mx x y⟩ :: os) K env σ = bA P dr (yp (x.ev env) (y.ev env)) dst os K env σ := by
 simp only [aB, LK.step, LK.run, bA]
 cases x.ev env <;> cases y.ev env <;> simp [yp]
theorem vW {x y : LO} : aB P dr (⟨dst, none, .mn x y⟩ :: os) K env σ = bA P dr (ym (x.ev env) (y.ev env)) dst os K env σ := by
 simp only [aB, LK.step, LK.run, bA]
 cases x.ev env <;> cases y.ev env <;> simp [ym]
def fS (P : Program) (dr : Bool) (st : Bool) (sz : Nat) (x : D) (lo hi : Option D) (dst : Option Nat) (os : List LOp) (K : bv → List Ob → Prop) (env : bv) (σ : List Ob) : Prop :=
 LK.run dr (.slice st sz (.c x) (lo.map .c) (hi.map .c)) (LO.ev env) σ fun d σ' => aB P dr os K (put env dst d) σ'
theorem m9 {st : Bool} {sz : Nat} {x : LO} {lo hi : Option LO} : aB P dr (⟨dst, none, .slice st sz x lo hi⟩ :: os) K env σ = fS P dr st sz (x.ev env) (lo.map (LO.ev env)) (hi.map (LO.ev env)) dst os K env σ := by
 have e1 : ∀ x : Option LO, (Option.map (LO.ev env) ((x.map (LO.ev env)).map LO.c)) = x.map (LO.ev env) := fun x => by cases x <;> rfl
 simp only [aB, LK.step, fS, LK.run, LO.ev, e1]
theorem j3 {st : Bool} {sz : Nat} {s : ByteArray} {lo hi : Option D} : fS P dr st sz (.str s) lo hi dst os K env σ = bA P dr (eZ st sz (.str s) (eu lo 0) (eu hi s.size)) dst os K env σ := by
 have e1 : ∀ x : Option D, (Option.map (LO.ev env) (x.map LO.c)) = x := fun x => by cases x <;> rfl
 simp only [fS, LK.run, LO.ev, bA, pD, e1]
 cases eu lo 0 <;> cases eu hi s.size <;> simp [eZ, and_assoc]
theorem i8 {st : Bool} {sz : Nat} {nl : Option Bool} {tg : Bool} {rows : List (List D)} {lo hi : Option D} : fS P dr st sz (.list nl tg rows) lo hi dst os K env σ = bA P dr (eZ st sz (.list nl tg rows) (eu lo 0) (eu hi rows.length)) dst os K env σ := by
 have e1 : ∀ x : Option D, (Option.map (LO.ev env) (x.map LO.c)) = x := fun x => by cases x <;> rfl
 simp only [fS, LK.run, LO.ev, bA, pD, e1]
 cases eu lo 0 <;> cases eu hi rows.length <;> simp [eZ, and_assoc]
theorem aZ {sz l i k n z : Nat} {cl : Option Nat} {lo hi : Option D} {a b : Int} (h1 : eu lo 0 = some a) (h2 : eu hi k = some b) (h3 : z = sz ∧ 0 ≤ a ∧ a ≤ b ∧ b ≤ k) (h : aB P dr os K (put env dst (.own l (i + a.toNat) (b.toNat - a.toNat) n z cl)) σ) :
  fS P dr false sz (.own l i k n z cl) lo hi dst os K env σ := by
 have e1 : ∀ x : Option D, (Option.map (LO.ev env) (x.map LO.c)) = x := fun x => by cases x <;> rfl
 simp only [fS, LK.run, LO.ev, pD, e1, h1, h2]
 exact ⟨trivial, h3.1, h3.2.1, h3.2.2.1, .inl ⟨h3.2.2.2, h⟩⟩
def eS (sz : Nat) : D → Option Int → Option Int → Option Int → Option (Prop × D)
 | .list nl _ rows, some l, some h, some m => some (0 < sz ∧ (∀ r ∈ rows, r.length = sz) ∧ 0 ≤ l ∧ l ≤ h ∧ h ≤ m ∧ m ≤ rows.length, .list nl (decide (h = m)) ((rows.take h.toNat).drop l.toNat))
 | .own l' i k n z cl, some l, some h, some m => some (z = sz ∧ 0 ≤ l ∧ l ≤ h ∧ h ≤ m ∧ m ≤ k, .own l' (i + l.toNat) (h.toNat - l.toNat) n z (some (i + m.toNat)))
 | _, _, _, _ => none
theorem lZ {sz : Nat} {x : LO} {lo : Option LO} {hi m : LO} : aB P dr (⟨dst, none, .slice3 sz x lo hi m⟩ :: os) K env σ =
  bA P dr (eS sz (x.ev env) (eu (lo.map (LO.ev env)) 0) (eu (some (hi.ev env)) 0) (eu (some (m.ev env)) 0)) dst os K env σ := by
 simp only [aB, LK.step, LK.run, bA]
 cases hx : x.ev env <;> simp only [eS, pD] <;> (try (cases eu (lo.map (LO.ev env)) 0 <;> cases eu (some (hi.ev env)) 0 <;> cases eu (some (m.ev env)) 0 <;> simp [and_assoc]))
def nU (P : Program) (dr : Bool) (x : D) (ag : Option Nat) (dst : Option Nat) (os : List LOp) (K : bv → List Ob → Prop) (env : bv) (σ : List Ob) : Prop :=
 aB P dr (⟨dst, none, .load ag (.c x)⟩ :: os) K env σ
def pR (P : Program) (dr : Bool) (o : Option Ob) (j i n : Nat) (ag : Option Nat) (dst : Option Nat) (os : List LOp) (K : bv → List Ob → Prop) (env : bv) (σ : List Ob) : Prop :=
 match o with
 | some o => o.rows.length = n ∧ o.real = true ∧ j < n ∧ ∀ r, o.rows[j]? = some r → bA P dr (eG r i ag) dst os K env σ
 | none => False
def lY (P : Program) (dr : Bool) (r : Option (List D)) (i : Nat) (ag : Option Nat) (dst : Option Nat) (os : List LOp) (K : bv → List Ob → Prop) (env : bv) (σ : List Ob) : Prop :=
 ∀ r', r = some r' → bA P dr (eG r' i ag) dst os K env σ
theorem qb {ag : Option Nat} {x : LO} : aB P dr (⟨dst, none, .load ag x⟩ :: os) K env σ = nU P dr (x.ev env) ag dst os K env σ := id rfl
theorem lN {r : List D} {i : Nat} {ag : Option Nat} : nU P dr (.elt r i) ag dst os K env σ = bA P dr (eG r i ag) dst os K env σ := by
 simp only [nU, aB, LK.step, LK.run, bA, LO.ev, fh]
theorem lA {l j i n : Nat} {ag : Option Nat} : nU P dr (.ptr l j i n) ag dst os K env σ = pR P dr (σ[l]?) j i n ag dst os K env σ := by
 simp only [nU, aB, LK.step, LK.run, bA, LO.ev, fh, pR]
 cases σ[l]? <;> rfl
theorem j7 {o : Ob} {j i n : Nat} {ag : Option Nat} : pR P dr (some o) j i n ag dst os K env σ = ((o.rows.length = n ∧ o.real = true ∧ j < n) ∧ lY P dr (o.rows[j]?) i ag dst os K env σ) := by
 simp [pR, lY, and_assoc]
theorem kN {r : List D} {i : Nat} {ag : Option Nat} : lY P dr (some r) i ag dst os K env σ = bA P dr (eG r i ag) dst os K env σ := by
 simp [lY]
theorem lH {α : Type} {f : α → List D} {xs : List α} {m i : Nat} {ag : Option Nat} : lY P dr ((xs.map f)[m]?) i ag dst os K env σ = ∀ x, xs[m]? = some x → bA P dr (eG (f x) i ag) dst os K env σ := by
 simp [lY]
theorem sV {x : LO} : aB P dr (⟨dst, none, .box x⟩ :: os) K env σ = (((x.ev env).cells ≠ [] ∧ (x.ev env).ok = true) ∧
  aB P dr os K (put env dst (.ptr σ.length 0 0 1)) (σ ++ [⟨true, false, (x.ev env).cells.all D.pt1, false, (x.ev env).cells.length, [(x.ev env).cells], some 0⟩])) := by
 simp only [aB, LK.step, LK.run, and_assoc]
theorem nR {zs : List D} : aB P dr (⟨dst, none, .alloc zs⟩ :: os) K env σ = (zs ≠ [] ∧ aB P dr os K (put env dst (.ptr σ.length 0 0 1)) (σ ++ [⟨true, false, zs.all D.pt1, false, zs.length, [zs], some 0⟩])) := by
 simp only [aB, LK.step, LK.run]
def oG (P : Program) (dr : Bool) (n : Nat) (x y : D) (dst : Option Nat) (os : List LOp) (K : bv → List Ob → Prop) (env : bv) (σ : List Ob) : Prop :=
 aB P dr (⟨dst, none, .store n (.c x) (.c y)⟩ :: os) K env σ
def mU (P : Program) (dr : Bool) (o : Option Ob) (l j i n m : Nat) (y : D) (dst : Option Nat) (os : List LOp) (K : bv → List Ob → Prop) (env : bv) (σ : List Ob) : Prop :=
 match o with
 | some o => o.rows.length = m ∧ o.real = true ∧ o.fz = false ∧ y.cells.length = n ∧ i + n ≤ o.sz ∧ y.ok = true ∧ j < m ∧
   ∀ r, o.rows[j]? = some r → aB P dr os K (put env dst .undef) (σ.set l { o with pure := o.pure && y.cells.all D.pt1, rows := o.rows.set j (splice r i y.cells) })
 | none => False
def mT (P : Program) (dr : Bool) (r : Option (List D)) (o : Ob) (l j i : Nat) (y : D) (dst : Option Nat) (os : List LOp) (K : bv → List Ob → Prop) (env : bv) (σ : List Ob) : Prop :=
 ∀ r', r = some r' → aB P dr os K (put env dst .undef) (σ.set l { o with pure := o.pure && y.cells.all D.pt1, rows := o.rows.set j (splice r' i y.cells) })
theorem nK {n : Nat} {x y : LO} : aB P dr (⟨dst, none, .store n x y⟩ :: os) K env σ = oG P dr n (x.ev env) (y.ev env) dst os K env σ := id rfl
theorem kx {l j i m n : Nat} {y : D} : oG P dr n (.ptr l j i m) y dst os K env σ = mU P dr (σ[l]?) l j i n m y dst os K env σ := by
 simp only [oG, aB, LK.step, LK.run, LO.ev, mU]
 cases σ[l]? <;> rfl
theorem jf {o : Ob} {l j i n m : Nat} {y : D} : mU P dr (some o) l j i n m y dst os K env σ = ((o.rows.length = m ∧ o.real = true ∧ o.fz = false ∧ y.cells.length = n ∧ i + n ≤ o.sz ∧ y.ok = true ∧ j < m) ∧ mT P dr (o.rows[j]?) o l j i y dst os K env σ) := by
 simp [mU, mT, and_assoc]
theorem iT {r : List D} {o : Ob} {l j i : Nat} {y : D} : mT P dr (some r) o l j i y dst os K env σ = aB P dr os K (put env dst .undef) (σ.set l { o with pure := o.pure && y.cells.all D.pt1, rows := o.rows.set j (splice r i y.cells) }) := by
 simp [mT]
def jT (P : Program) (dr : Bool) (sz : Nat) (x i : D) (dst : Option Nat) (os : List LOp) (K : bv → List Ob → Prop) (env : bv) (σ : List Ob) : Prop :=
 aB P dr (⟨dst, none, .iaddr sz (.c x) (.c i)⟩ :: os) K env σ
def iL (P : Program) (dr : Bool) (sz : Nat) (r : Option (List D)) (dst : Option Nat) (os : List LOp) (K : bv → List Ob → Prop) (env : bv) (σ : List Ob) : Prop :=
 ∀ r', r = some r' → r'.length = sz ∧ aB P dr os K (put env dst (.elt r' 0)) σ
theorem nH {sz : Nat} {x i : LO} : aB P dr (⟨dst, none, .iaddr sz x i⟩ :: os) K env σ = jT P dr sz (x.ev env) (i.ev env) dst os K env σ := id rfl
theorem iY {sz : Nat} {nl : Option Bool} {tg : Bool} {rows : List (List D)} {k : IntKind} {n : Int} : jT P dr sz (.list nl tg rows) (.int k n) dst os K env σ = ((0 ≤ n ∧ n < rows.length) ∧ iL P dr sz (rows[n.toNat]?) dst os K env σ) := by
 simp only [jT, aB, LK.step, LK.run, LO.ev, iL, and_assoc]
theorem kI {sz l i q m z : Nat} {cl : Option Nat} {k : IntKind} {n : Int} : jT P dr sz (.own l i q m z cl) (.int k n) dst os K env σ = ((z = sz ∧ 0 ≤ n ∧ n < q) ∧ aB P dr os K (put env dst (.ptr l (i + n.toNat) 0 m)) σ) := by
 simp only [jT, aB, LK.step, LK.run, LO.ev, and_assoc]
theorem iV {sz : Nat} {r : List D} : iL P dr sz (some r) dst os K env σ = (r.length = sz ∧ aB P dr os K (put env dst (.elt r 0)) σ) := by
 simp [iL]
theorem jW {sz : Nat} {α : Type} {f : α → List D} {xs : List α} {m : Nat} : iL P dr sz ((xs.map f)[m]?) dst os K env σ = ∀ x, xs[m]? = some x → (f x).length = sz ∧ aB P dr os K (put env dst (.elt (f x) 0)) σ := by
 simp [iL]
def kR (P : Program) (dr : Bool) (sz bytes : Nat) (new : List (List D)) (pu : Bool) (s : D) (dst : Option Nat) (os : List LOp) (K : bv → List Ob → Prop) (env : bv) (σ : List Ob) : Prop :=
 fR sz bytes new pu s σ fun d σ' => aB P dr os K (put env dst d) σ'
def ya (P : Program) (dr : Bool) (sz bytes : Nat) (x : Option (List (List D) × Bool)) (s : D) (dst : Option Nat) (os : List LOp) (K : bv → List Ob → Prop) (env : bv) (σ : List Ob) : Prop :=
 match x with
 | some (new, pu) => kR P dr sz bytes new pu s dst os K env σ
 | none => False
def up (P : Program) (dr : Bool) (o : Option Ob) (l i k n sz bytes : Nat) (cl : Option Nat) (new : List (List D)) (pu : Bool) (dst : Option Nat) (os : List LOp) (K : bv → List Ob → Prop) (env : bv) (σ : List Ob) : Prop :=
 match o with
 | some o => (o.rows.length = n ∧ (k + new.length) * bytes ≤ 140737488355328 ∧ k + new.length ≤ 9223372036854775807) ∧ ee sz new pu l i k n cl o σ fun d σ' => aB P dr os K (put env dst d) σ'
 | none => False
theorem rT {sz bytes : Nat} {s x : LO} : aB P dr (⟨dst, none, .app sz bytes s x⟩ :: os) K env σ = ya P dr sz bytes (fk σ (x.ev env)) (s.ev env) dst os K env σ := by
 simp only [aB, LK.step, LK.run, ya, kR]
 cases fk σ (x.ev env) <;> rfl
theorem lX {sz bytes : Nat} {new : List (List D)} {pu : Bool} {s : D} : ya P dr sz bytes (some (new, pu)) s dst os K env σ = kR P dr sz bytes new pu s dst os K env σ := id rfl
def xR (P : Program) (dr : Bool) (sz bytes : Nat) (zs : List D) (x s : D) (dst : Option Nat) (os : List LOp) (K : bv → List Ob → Prop) (env : bv) (σ : List Ob) : Prop :=
 match x with
 | .int k n => (k = .i64 ∧ zs.length = sz ∧ 0 ≤ n ∧ n * bytes ≤ 140737488355328 ∧ n ≤ 9223372036854775807) ∧ kR P dr sz bytes (List.replicate n.toNat zs) (zs.all D.pt1) s dst os K env σ
 | _ => False
theorem pz {sz bytes : Nat} {zs : List D} {s x : LO} : aB P dr (⟨dst, none, .appz sz bytes zs s x⟩ :: os) K env σ = xR P dr sz bytes zs (x.ev env) (s.ev env) dst os K env σ := by
 simp only [aB, LK.step, LK.run, xR, kR]
 cases x.ev env <;> rfl
theorem nT {sz bytes : Nat} {zs : List D} {k : IntKind} {n : Int} {s : D} : xR P dr sz bytes zs (.int k n) s dst os K env σ = ((k = .i64 ∧ zs.length = sz ∧ 0 ≤ n ∧ n * bytes ≤ 140737488355328 ∧ n ≤ 9223372036854775807) ∧ kR P dr sz bytes (List.replicate n.toNat zs) (zs.all D.pt1) s dst os K env σ) := id rfl
theorem nW {sz bytes : Nat} {b : Bool} {new : List (List D)} {pu : Bool} : kR P dr sz bytes new pu (.list (some b) true []) dst os K env σ = (((∀ r ∈ new, r.length = sz) ∧ 0 < sz ∧ new.length * bytes ≤ 140737488355328 ∧ new.length ≤ 9223372036854775807) ∧
  aB P dr os K (put env dst (.own σ.length 0 new.length new.length sz none)) (σ ++ [aU b sz pu new])) := by
 simp only [kR, fR, and_assoc, aU]
theorem nu {sz bytes l i k n z : Nat} {cl : Option Nat} {new : List (List D)} {pu : Bool} : kR P dr sz bytes new pu (.own l i k n z cl) dst os K env σ = (((∀ r ∈ new, r.length = sz) ∧ 0 < sz ∧ z = sz) ∧ up P dr (σ[l]?) l i k n sz bytes cl new pu dst os K env σ) := by
 simp only [kR, fR, and_assoc, up]
 cases σ[l]? <;> simp [and_assoc]
theorem ng {b : Bool} {sz' : Nat} {pu0 : Bool} {rows : List (List D)} {l n sz bytes : Nat} {new : List (List D)} {pu : Bool} : up P dr (some (aU b sz' pu0 rows)) l 0 n n sz bytes none new pu dst os K env σ = ((rows.length = n ∧ (n + new.length) * bytes ≤ 140737488355328 ∧ n + new.length ≤ 9223372036854775807) ∧
  aB P dr os K (put env dst (.own l 0 (n + new.length) (n + new.length) sz none)) (σ.set l (aU b sz' (pu0 && pu) (rows ++ new)))) := by
 have e : ({ aU b sz' pu0 rows with real := (aU b sz' pu0 rows).real || !new.isEmpty, nl := (aU b sz' pu0 rows).nl && new.isEmpty, pure := (aU b sz' pu0 rows).pure && pu, rows := (aU b sz' pu0 rows).rows ++ new, spare := none } : Ob) = aU b sz' (pu0 && pu) (rows ++ new) := by
  simp only [aU]
  cases rows <;> cases new <;> simp
 simp only [up, ee, and_self, if_true, e]
 simp only [aU, true_and]
def yd (P : Program) (x : D) (dst : Option Nat) (os : List LOp) (K : bv → List Ob → Prop) (env : bv) (σ : List Ob) : Prop := aB P false (⟨dst, none, .cap (.c x)⟩ :: os) K env σ
def qB (P : Program) (o : Option Ob) (l i k n : Nat) (dst : Option Nat) (os : List LOp) (K : bv → List Ob → Prop) (env : bv) (σ : List Ob) : Prop := match o with
 | some o => o.rows.length = n ∧ if o.real = true then (match o.spare with
   | some c => aB P false os K (put env dst (.int .i64 (n + c - i : Nat))) σ
   | none => o.fz = false ∧ ∀ c : Nat, n + c ≤ 9223372036854775807 → aB P false os K (put env dst (.int .i64 (n + c - i : Nat))) (σ.set l { o with spare := some c })) else aB P false os K (put env dst (.int .i64 0)) σ
 | none => False
def xa (P : Program) (x y : D) (dst : Option Nat) (os : List LOp) (K : bv → List Ob → Prop) (env : bv) (σ : List Ob) : Prop := aB P false (⟨dst, none, .ovl (.c x) (.c y)⟩ :: os) K env σ
theorem tL {x y : LO} : aB P false (⟨dst, none, .ovl x y⟩ :: os) K env σ = xa P (x.ev env) (y.ev env) dst os K env σ := id rfl
def wL (P : Program) (o : Option Ob) (rows : List (List D)) (n z : Nat) (dst : Option Nat) (os : List LOp) (K : bv → List Ob → Prop) (env : bv) (σ : List Ob) : Prop := match o with
 | some o => ((0 < z ∧ ∀ r ∈ rows, r ≠ []) ∧ o.rows.length = n ∧ o.real = true ∧ o.fz = false) ∧ aB P false os K (put env dst (.bool false)) σ
 | none => False
theorem lz {o : Ob} {rows : List (List D)} {n z : Nat} : wL P (some o) rows n z dst os K env σ = (((0 < z ∧ ∀ r ∈ rows, r ≠ []) ∧ o.rows.length = n ∧ o.real = true ∧ o.fz = false) ∧ aB P false os K (put env dst (.bool false)) σ) := id rfl
theorem ny {nl : Option Bool} {tg : Bool} {rows : List (List D)} {l i k n z : Nat} {cl : Option Nat} : xa P (.list nl tg rows) (.own l i k n z cl) dst os K env σ = wL P (σ[l]?) rows n z dst os K env σ := by
 cases ho : σ[l]? <;> simp [xa, wL, aB, LK.step, LK.run, LO.ev, ho, and_assoc]
theorem tE {x : LO} : aB P false (⟨dst, none, .cap x⟩ :: os) K env σ = yd P (x.ev env) dst os K env σ := id rfl
theorem nP {l i k n z : Nat} : yd P (.own l i k n z none) dst os K env σ = qB P (σ[l]?) l i k n dst os K env σ := by
 simp only [yd, aB, LK.step, LK.run, LO.ev, qB, true_and]
 cases σ[l]? with
 | none => rfl
 | some o => cases o.spare <;> rfl
def pF (P : Program) (dr : Bool) (sz : Nat) (x : D) (s : Option (List (List D) × Bool)) (dst : Option Nat) (os : List LOp) (K : bv → List Ob → Prop) (env : bv) (σ : List Ob) : Prop := match s with
 | some (new, pu) => (∀ r ∈ new, r.length = sz) ∧ match x with
   | .own l i k n z cl => z = sz ∧ match σ[l]? with
    | some o => o.rows.length = n ∧ o.fz = false ∧ (pu || (new.take k).all fun r => r.all D.one) = true ∧ aB P dr os K (put env dst (.int .i64 (min new.length k : Nat))) (σ.set l { o with pure := o.pure && pu, rows := o.rows.take i ++ new.take k ++ o.rows.drop (i + min new.length k) })
    | none => False
   | .list _ _ [] => aB P dr os K (put env dst (.int .i64 0)) σ
   | _ => False
 | none => False
theorem pQ {sz : Nat} {x y : LO} : aB P dr (⟨dst, none, .copy sz x y⟩ :: os) K env σ = pF P dr sz (x.ev env) (gJ σ (y.ev env)) dst os K env σ := by
 simp only [aB, LK.step, LK.run, pF]
 cases gJ σ (y.ev env) <;> rfl
def pn (P : Program) (dr : Bool) (o : Option Ob) (l i k n : Nat) (new : List (List D)) (pu : Bool) (dst : Option Nat) (os : List LOp) (K : bv → List Ob → Prop) (env : bv) (σ : List Ob) : Prop := match o with
 | some o => o.rows.length = n ∧ o.fz = false ∧ (pu || (new.take k).all fun r => r.all D.one) = true ∧ aB P dr os K (put env dst (.int .i64 (min new.length k : Nat))) (σ.set l { o with pure := o.pure && pu, rows := o.rows.take i ++ new.take k ++ o.rows.drop (i + min new.length k) })
 | none => False
theorem mA {sz l i k n z : Nat} {cl : Option Nat} {new : List (List D)} {pu : Bool} : pF P dr sz (.own l i k n z cl) (some (new, pu)) dst os K env σ = (((∀ r ∈ new, r.length = sz) ∧ z = sz) ∧ pn P dr (σ[l]?) l i k n new pu dst os K env σ) := by
 simp only [pF, pn, and_assoc]
theorem kg {o : Ob} {l i k n : Nat} {new : List (List D)} {pu : Bool} : pn P dr (some o) l i k n new pu dst os K env σ = ((o.rows.length = n ∧ o.fz = false ∧ (pu || (new.take k).all fun r => r.all D.one) = true) ∧ aB P dr os K (put env dst (.int .i64 (min new.length k : Nat))) (σ.set l { o with pure := o.pure && pu, rows := o.rows.take i ++ new.take k ++ o.rows.drop (i + min new.length k) })) := by
 simp only [pn, and_assoc]
def jZ (P : Program) (dr : Bool) (zs : List D) (x : D) (dst : Option Nat) (os : List LOp) (K : bv → List Ob → Prop) (env : bv) (σ : List Ob) : Prop := aB P dr (⟨dst, none, .clear zs (.c x)⟩ :: os) K env σ
def oP (P : Program) (dr : Bool) (o : Option Ob) (l i k n : Nat) (zs : List D) (dst : Option Nat) (os : List LOp) (K : bv → List Ob → Prop) (env : bv) (σ : List Ob) : Prop := match o with
 | some o => (o.rows.length = n ∧ o.fz = false) ∧ aB P dr os K (put env dst (.tup [])) (σ.set l { o with pure := o.pure && zs.all D.pt1, rows := o.rows.take i ++ List.replicate k zs ++ o.rows.drop (i + k) })
 | none => False
theorem nh {zs : List D} {x : LO} : aB P dr (⟨dst, none, .clear zs x⟩ :: os) K env σ = jZ P dr zs (x.ev env) dst os K env σ := id rfl
theorem j0 {zs : List D} {l i k n z : Nat} {cl : Option Nat} : jZ P dr zs (.own l i k n z cl) dst os K env σ = (z = zs.length ∧ oP P dr (σ[l]?) l i k n zs dst os K env σ) := by
 simp only [jZ, aB, LK.step, LK.run, LO.ev, oP]
 cases σ[l]? <;> simp [and_assoc]
theorem i2 {o : Ob} {l i k n : Nat} {zs : List D} : oP P dr (some o) l i k n zs dst os K env σ = ((o.rows.length = n ∧ o.fz = false) ∧ aB P dr os K (put env dst (.tup [])) (σ.set l { o with pure := o.pure && zs.all D.pt1, rows := o.rows.take i ++ List.replicate k zs ++ o.rows.drop (i + k) })) := id rfl
theorem jV {zs : List D} {nl : Option Bool} {tg : Bool} : jZ P dr zs (.list nl tg []) dst os K env σ = aB P dr os K (put env dst (.tup [])) σ := by
 simp only [jZ, aB, LK.step, LK.run, LO.ev]
def xK (P : Program) (dr : Bool) (zs : List D) (bytes : Nat) (n c : D) (dst : Option Nat) (os : List LOp) (K : bv → List Ob → Prop) (env : bv) (σ : List Ob) : Prop := aB P dr (⟨dst, none, .mks zs bytes (.c n) (.c c)⟩ :: os) K env σ
theorem rJ {zs : List D} {bytes : Nat} {n c : LO} : aB P dr (⟨dst, none, .mks zs bytes n c⟩ :: os) K env σ = xK P dr zs bytes (n.ev env) (c.ev env) dst os K env σ := id rfl
theorem nD {zs : List D} {bytes : Nat} {k1 k2 : IntKind} {a b : Int} : xK P dr zs bytes (.int k1 a) (.int k2 b) dst os K env σ = ((zs ≠ [] ∧ 0 ≤ a ∧ a ≤ b ∧ b * bytes ≤ 140737488355328 ∧ b ≤ 9223372036854775807) ∧
  aB P dr os K (put env dst (.own σ.length 0 a.toNat a.toNat zs.length none)) (σ ++ [⟨true, false, zs.all D.pt1, false, zs.length, List.replicate a.toNat zs, some (b.toNat - a.toNat)⟩])) := by
 simp only [xK, aB, LK.step, LK.run, LO.ev, and_assoc]
def ta (o : Option Ob) (i k n : Nat) : Option (List (List D) × Bool) := match o with
 | some o => if o.rows.length = n ∧ (o.pure || (cg i k n o.rows).all fun r => r.all D.one) = true then some (cg i k n o.rows, o.pure) else none
 | none => none
def oK (o : Option Ob) (i k n : Nat) : Option (List (List D) × Bool) := match o with
 | some o => if o.rows.length = n then some (cg i k n o.rows, o.pure) else none
 | none => none
theorem i6 {o : Ob} {i k n : Nat} : oK (some o) i k n = if o.rows.length = n then some (cg i k n o.rows, o.pure) else none := id rfl
theorem kK {σ : List Ob} {nl : Option Bool} {tg : Bool} {rows : List (List D)} : gJ σ (.list nl tg rows) = some (rows, true) := id rfl
theorem le {σ : List Ob} {s : ByteArray} : gJ σ (.str s) = some (s.data.toList.map (fun b => [.int .u8 b.toNat]), true) := id rfl
theorem mv {σ : List Ob} {l i k n z : Nat} {cl : Option Nat} : gJ σ (.own l i k n z cl) = oK (σ[l]?) i k n := by
 simp only [gJ, oK]; cases σ[l]? <;> rfl
theorem kp {σ : List Ob} {nl : Option Bool} {tg : Bool} {rows : List (List D)} : fk σ (.list nl tg rows) = some (rows, true) := id rfl
theorem lD {σ : List Ob} {s : ByteArray} : fk σ (.str s) = some (s.data.toList.map (fun b => [.int .u8 b.toNat]), true) := id rfl
theorem lE {σ : List Ob} {l i k n z : Nat} {cl : Option Nat} : fk σ (.own l i k n z cl) = ta (σ[l]?) i k n := by
 simp only [fk, ta]; cases σ[l]? <;> rfl
theorem ki {o : Ob} {i k n : Nat} : ta (some o) i k n = if o.rows.length = n ∧ (o.pure || (cg i k n o.rows).all fun r => r.all D.one) = true then some (cg i k n o.rows, o.pure) else none := id rfl
theorem cm {n : Nat} {rows : List (List D)} : cg 0 n n rows = rows := by simp [cg]
def eU (o : Option Ob) (i k n : Nat) : Option (List (List D)) := match o with
 | some o => if o.rows.length = n ∧ (o.pure || (cg i k n o.rows).all fun r => r.all D.pt1) = true then some (cg i k n o.rows) else none
 | none => none
theorem fC {σ : List Ob} {nl : Option Bool} {tg : Bool} {rows : List (List D)} : dH σ (.list nl tg rows) = some rows := id rfl
theorem bL {σ : List Ob} {l i k n z : Nat} {cl : Option Nat} : dH σ (.own l i k n z cl) = eU (σ[l]?) i k n := by
 simp only [dH, eU]; cases σ[l]? <;> rfl
theorem bK {o : Ob} {i k n : Nat} : eU (some o) i k n = if o.rows.length = n ∧ (o.pure || (cg i k n o.rows).all fun r => r.all D.pt1) = true then some (cg i k n o.rows) else none := id rfl
theorem tD : er P [] K env σ = K env σ := id rfl
theorem pL {o : LOp} {ts : List Nat} {os : List (LOp × List Nat)} : er P ((o, ts) :: os) K env σ = aB P true [o] (fun env1 σ1 => er P os (jU ts σ σ1 K) env1 σ1) env σ := id rfl
theorem mu {σ1 : List Ob} : jU [] σ σ1 K = K := id rfl
def hJ (σ σ1 : List Ob) : List Nat → Prop
 | [] => True
 | l :: ls => σ[l]? = σ1[l]? ∧ hJ σ σ1 ls
def jc (σ σ1 : List Ob) (env : bv) : List Nat → Prop
 | [] => True
 | t :: ts => hJ σ σ1 (lk env t).names ∧ jc σ σ1 env ts
theorem my {σ1 : List Ob} : hJ σ σ1 [] = True := id rfl
theorem kJ {σ1 : List Ob} {l : Nat} {ls : List Nat} : hJ σ σ1 (l :: ls) = (σ[l]? = σ1[l]? ∧ hJ σ σ1 ls) := id rfl
theorem lM {σ1 : List Ob} : jc σ σ1 env [] = True := id rfl
theorem kd {σ1 : List Ob} {t : Nat} {ts : List Nat} : jc σ σ1 env (t :: ts) = (hJ σ σ1 (lk env t).names ∧ jc σ σ1 env ts) := id rfl
theorem ml {σ1 : List Ob} : ∀ (ls : List Nat), hJ σ σ1 ls ↔ ∀ l ∈ ls, σ[l]? = σ1[l]?
 | [] => by simp [hJ]
 | l :: ls => by simp [hJ, ml ls]
theorem lB {σ1 : List Ob} : ∀ (ts : List Nat), jc σ σ1 env ts ↔ ∀ t ∈ ts, cJ σ σ1 (lk env t)
 | [] => by simp [jc]
 | t :: ts => by simp [jc, lB ts, ml, cJ]
theorem ku {t : Nat} {ts : List Nat} {σ1 σ2 : List Ob} : jU (t :: ts) σ σ1 K env σ2 = (jc σ σ1 env (t :: ts) ∧ K env σ2) := by
 rw [show jU (t :: ts) σ σ1 K env σ2 = ((∀ x ∈ t :: ts, cJ σ σ1 (lk env x)) ∧ K env σ2) from rfl, ← lB]
def dA (P : Program) (dr : Bool) (d : D) (want : Bool) (dst : Option Nat) (k : LK) (os : List LOp) (K : bv → List Ob → Prop) (env : bv) (σ : List Ob) : Prop :=
 ∃ g, gv d g ∧ (g = some want → aB P dr (⟨dst, none, k⟩ :: os) K env σ) ∧ (g ≠ some want → aB P dr os K (put env dst (.tup [])) σ)
theorem nV {t : Nat} {want : Bool} {k : LK} : aB P dr (⟨dst, some (t, want), k⟩ :: os) K env σ = dA P dr (lk env t) want dst k os K env σ := id rfl
theorem jH {b : Bool} {g : Option Bool} : gv (.bool b) g = (g = some b) := by
 cases g <;> simp [gv, eq_comm]
theorem wj {g : Option Bool} : gv (.tup []) g = (g = none) := by
 cases g <;> simp [gv]
theorem lQ {k : LK} : dA P dr (.bool true) true dst k os K env σ = aB P dr (⟨dst, none, k⟩ :: os) K env σ := by simp [dA, jH]
theorem lu {k : LK} : dA P dr (.bool false) false dst k os K env σ = aB P dr (⟨dst, none, k⟩ :: os) K env σ := by simp [dA, jH]
theorem lT {k : LK} : dA P dr (.bool true) false dst k os K env σ = aB P dr os K (put env dst (.tup [])) σ := by simp [dA, jH]
theorem lC {k : LK} : dA P dr (.bool false) true dst k os K env σ = aB P dr os K (put env dst (.tup [])) σ := by simp [dA, jH]
theorem lI {k : LK} {want : Bool} : dA P dr (.tup []) want dst k os K env σ = aB P dr os K (put env dst (.tup [])) σ := by simp [dA, wj]
theorem ac {b want : Bool} {k : LK} (h1 : b = true → dA P dr (.bool true) want dst k os K env σ) (h2 : b = false → dA P dr (.bool false) want dst k os K env σ) : dA P dr (.bool b) want dst k os K env σ := by
 cases b
 ·exact h2 rfl
 ·exact h1 rfl
theorem uo {f : LO} {args : List LO} {fid : FuncId} {caps : List D} {ds' : List D} {r : D} (h : br P fid ds' r) (hf : f.ev env = .fn fid caps) (hv : bq (dL σ) (args.map (LO.ev env) ++ caps) = some ds') (hs : ((args.map (LO.ev env) ++ caps).all D.pt || r.sc) = true)
  (hk : aB P dr os K (put env dst r) σ) : aB P dr (⟨dst, none, .call f args⟩ :: os) K env σ := by
 simp only [aB, LK.step, jX, hf]
 cases dr with
 | true => exact ⟨r, ds', hv, h, hs, hk⟩
 | false => exact ⟨_, dD h hv hs, fun d σ' ⟨h1, h2⟩ => by rw [h1, h2]; exact hk⟩
theorem tM {f : LO} {args : List LO} {fid : FuncId} {caps : List D} {ds' : List D} {r : D} (h : br P fid ds' r) (hf : f.ev env = .fn fid caps) (hv : bq (dL σ) (args.map (LO.ev env) ++ caps) = some ds') (hs : ((args.map (LO.ev env) ++ caps).all D.pt || r.sc) = true)
  (hk : aB P dr os K (put env dst r) σ) : aB P dr (⟨dst, none, .callX f args⟩ :: os) K env σ := by
 simp only [aB, LK.step, iB, hf]
 cases dr with
 | true => exact ⟨r, σ, dD h hv hs, hk⟩
 | false => exact ⟨_, dD h hv hs, fun d σ' ⟨h1, h2⟩ => by rw [h1, h2]; exact hk⟩
theorem mX {n : Nat} : lk [] n = .undef := id rfl
theorem nL {k : Nat} {d : D} {e : bv} : put e (some k) d = (k, d) :: e := id rfl
theorem nb {d : D} {e : bv} : put e none d = e := id rfl
theorem ev_t {n : Nat} {env : bv} : LO.ev env (.t n) = lk env n := id rfl
theorem ev_c {d : D} {env : bv} : LO.ev env (.c d) = d := id rfl
def i7 (P : Program) (N : Nat) (base : List Ob) (d : D) (x y : LC) (k : List LI) (post : bv → List Ob → Prop) (env : bv) (σ : List Ob) : Prop :=
 ∃ v, d = .bool v ∧ (v = true → dp P N base (.code x :: k) post env σ) ∧ (v = false → dp P N base (.code y :: k) post env σ)
theorem ae {N : Nat} {base : List Ob} {c : LO} {x y : LC} {k : List LI} {post : bv → List Ob → Prop} (h : i7 P N base (c.ev env) x y k post env σ) : dp P N base (.code (.cond c x y) :: k) post env σ := by
 obtain ⟨v, h1, h2, h3⟩ := h
 exact tx h1 h2 h3
theorem pE {N : Nat} {base : List Ob} {x y : LC} {k : List LI} {post : bv → List Ob → Prop} : i7 P N base (.bool true) x y k post env σ = dp P N base (.code x :: k) post env σ := by simp [i7]
theorem pZ {N : Nat} {base : List Ob} {x y : LC} {k : List LI} {post : bv → List Ob → Prop} : i7 P N base (.bool false) x y k post env σ = dp P N base (.code y :: k) post env σ := by simp [i7]
theorem aa {N : Nat} {base : List Ob} {b : Bool} {x y : LC} {k : List LI} {post : bv → List Ob → Prop} (h1 : b = true → i7 P N base (.bool true) x y k post env σ) (h2 : b = false → i7 P N base (.bool false) x y k post env σ) :
  i7 P N base (.bool b) x y k post env σ := by
 cases b
 ·exact h2 rfl
 ·exact h1 rfl
end
end Go.Vi
