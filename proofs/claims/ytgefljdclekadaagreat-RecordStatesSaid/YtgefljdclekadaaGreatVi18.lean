import Derived.Test.YtgefljdclekadaaGreatVi17
set_option linter.unusedVariables false
set_option linter.unusedSimpArgs false
set_option linter.unnecessarySimpa false
namespace Go.Vi
open Go Go.RowKit
def fx (r : List D) (i : Nat) : Option Nat → Option (Prop × D)
 | none => match r[i]? with
  | some d => some (True, d)
  | none => none
 | some n => some (i + n ≤ r.length, .agg ((r.drop i).take n))
def iC : Option D → Nat → Option Int
 | none, z => some z
 | some (.int _ n), _ => some n
 | some _, _ => none
def ba (b : Bool) (sz : Nat) (pu : Bool) (rows : List (List D)) : Ob := ⟨!rows.isEmpty, b && rows.isEmpty, pu, false, sz, rows, none⟩
theorem iB {b : Bool} {sz : Nat} {pu : Bool} {rows : List (List D)} : (ba b sz pu rows).real = !rows.isEmpty := id rfl
theorem mO {b : Bool} {sz : Nat} {pu : Bool} {rows : List (List D)} : (ba b sz pu rows).nl = (b && rows.isEmpty) := id rfl
theorem eo {b : Bool} {sz : Nat} {pu : Bool} {rows : List (List D)} : (ba b sz pu rows).pure = pu := id rfl
theorem mN {b : Bool} {sz : Nat} {pu : Bool} {rows : List (List D)} : (ba b sz pu rows).fz = false := id rfl
theorem mP {b : Bool} {sz : Nat} {pu : Bool} {rows : List (List D)} : (ba b sz pu rows).sz = sz := id rfl
theorem ep {b : Bool} {sz : Nat} {pu : Bool} {rows : List (List D)} : (ba b sz pu rows).rows = rows := id rfl
theorem gP {b : Bool} {sz : Nat} {pu : Bool} {rows : List (List D)} : (ba b sz pu rows).spare = none := id rfl
def gM (st : Bool) (sz : Nat) : D → Option Int → Option Int → Option (Prop × D)
 | .str s, some l, some h => some (st = true ∧ 0 ≤ l ∧ l ≤ h ∧ h ≤ s.size, .str (s.extract l.toNat h.toNat))
 | .list nl _ rows, some l, some h => some (st = false ∧ 0 < sz ∧ (∀ r ∈ rows, r.length = sz) ∧ 0 ≤ l ∧ l ≤ h ∧ h ≤ rows.length, .list nl false ((rows.take h.toNat).drop l.toNat))
 | _, _, _ => none
def ml : D → D → D → Option (Prop × D)
 | .bool v, a, b => some (True, bif v then a else b)
 | _, _, _ => none
def lq : D → Option (Prop × D)
 | .ptr l j i n => some (True, .ptr l j i n)
 | .elt r i => some (True, .elt r i)
 | .fn f cs => some (True, .fn f cs)
 | _ => none
def lP (k : IntKind) : D → Option (Prop × D)
 | .int _ n => some (True, .int k (k.wrap n))
 | _ => none
def rC : D → Option (Prop × D)
 | .str s => some (True, .str s)
 | _ => none
def sP : Option (List (List D)) → Option (Prop × D)
 | some rows => match bytesOf rows with
  | some l => some (True, .str ⟨l.toArray⟩)
  | none => none
 | none => none
def gC (off : Nat) : D → Option (Prop × D)
 | .ptr l j i n => some (True, .ptr l j (i + off) n)
 | .elt r i => some (True, .elt r (i + off))
 | _ => none
def we (off : Nat) (ag : Option Nat) : D → Option (Prop × D)
 | .agg cs => fx cs off ag
 | _ => none
def wi : D → D → Option (Prop × D)
 | .str s, .int _ n => some (0 ≤ n ∧ n < s.size, .int .u8 (bt s n))
 | _, _ => none
def rU (i : Nat) : D → Option (Prop × D)
 | .tup ds => match ds[i]? with
  | some d => some (True, d)
  | none => none
 | _ => none
def lv (st : Bool) : D → Option (Prop × D)
 | .str s => some (st = true, .int .i64 s.size)
 | .list _ _ rows => some (st = false, .int .i64 rows.length)
 | .own _ _ k _ _ _ => some (st = false, .int .i64 k)
 | _ => none
def mxD : D → D → Option (Prop × D)
 | .int k a, .int _ b => some (True, .int k (if b > a then b else a))
 | _, _ => none
def mnD : D → D → Option (Prop × D)
 | .int k a, .int _ b => some (True, .int k (if b < a then b else a))
 | _, _ => none
def zx : Option D → Option (Prop × D)
 | some d => some (True, d)
 | none => none
def rI : Option (List D) → Option (Prop × D)
 | some cs => some (True, .agg cs)
 | none => none
def lL : Option Bool → Option (Prop × D)
 | some b => some (True, .bool b)
 | none => none
def zt (neg : Bool) : Option Bool → Option Bool
 | some b => some (bif neg then !b else b)
 | none => none
def ct (P : Program) (dr : Bool) (r : Option (Prop × D)) (dst : Option Nat) (os : List LOp) (K : bK → List Ob → Prop) (env : bK) (σ : List Ob) : Prop :=
 match r with
 | some (p, d) => p ∧ aE P dr os K (put env dst d) σ
 | none => False
section
variable {P : Program} {dr : Bool} {dst : Option Nat} {os : List LOp} {K : bK → List Ob → Prop} {env : bK} {σ : List Ob}
theorem kd {p : Prop} {d : D} : ct P dr (some (p, d)) dst os K env σ = (p ∧ aE P dr os K (put env dst d) σ) := id rfl
theorem uU : aE P dr [] K env σ = K env σ := id rfl
theorem uT {x : LO} : aE P dr (⟨dst, none, .mov x⟩ :: os) K env σ = aE P dr os K (put env dst (x.ev env)) σ := id rfl
theorem rt {f : FuncId} {caps : List LO} : aE P dr (⟨dst, none, .mkfn f caps⟩ :: os) K env σ = aE P dr os K (put env dst (.fn f (caps.map (LO.ev env)))) σ := id rfl
theorem gS {r : List D} {i : Nat} {ag : Option Nat} {K : D → Prop} : bR r i ag K = match fx r i ag with
  | some (p, d) => p ∧ K d
  | none => False := by
 cases ag with
 | none => simp only [bR, fx]; cases r[i]? <;> simp
 | some n => simp [bR, fx]
theorem xq {x : Option D} {z : Nat} {K : Int → Prop} : lp x z K = match iC x z with
  | some n => K n
  | none => False := by
 unfold lp iC
 cases x with
 | none => rfl
 | some d => cases d <;> rfl
theorem ru {c a b : LO} : aE P dr (⟨dst, none, .pick c a b⟩ :: os) K env σ = ct P dr (ml (c.ev env) (a.ev env) (b.ev env)) dst os K env σ := by
 simp only [aE, LK.step, LK.run, ct]
 cases c.ev env <;> simp [ml]
theorem oM {zs : List D} {ps : List (Nat × Nat × LO)} : aE P dr (⟨dst, none, .build zs ps⟩ :: os) K env σ = ct P dr (rI (gD (LO.ev env) zs ps)) dst os K env σ := by
 simp only [aE, LK.step, LK.run, ct]
 cases gD (LO.ev env) zs ps <;> simp [rI]
def qL (P : Program) (dr : Bool) (sz : Nat) (ds : List D) (pt : Bool) (dst : Option Nat) (os : List LOp) (K : bK → List Ob → Prop) (env : bK) (σ : List Ob) : Prop :=
 if pt = true then aE P dr os K (put env dst (.list (some false) true (ds.map fun x => x.cells.map D.norm1))) σ
 else dr = false ∧ aE P dr os K (put env dst (.own σ.length 0 ds.length ds.length sz none)) (σ ++ [⟨true, false, false, false, sz, ds.map D.cells, some 0⟩])
theorem qM {sz : Nat} {ds : List D} : qL P dr sz ds true dst os K env σ = aE P dr os K (put env dst (.list (some false) true (ds.map fun x => x.cells.map D.norm1))) σ := by simp [qL]
theorem rz {sz : Nat} {xs : List LO} : aE P dr (⟨dst, none, .slit sz xs⟩ :: os) K env σ = ((0 < sz ∧ ∀ x ∈ xs.map (LO.ev env), x.cells.length = sz ∧ x.ok = true) ∧
  qL P dr sz (xs.map (LO.ev env)) ((xs.map (LO.ev env)).all D.pt) dst os K env σ) := by
 simp only [aE, LK.step, LK.run, qL]
 simp [and_assoc, Function.comp_def]
theorem uQ {x : LO} : aE P dr (⟨dst, none, .chk x⟩ :: os) K env σ = ct P dr (lq (x.ev env)) dst os K env σ := by
 simp only [aE, LK.step, LK.run, ct]
 cases x.ev env <;> simp [lq]
theorem uO {op : BinOp} {x y : LO} : aE P dr (⟨dst, none, .bin op x y⟩ :: os) K env σ = ct P dr (fH op (x.ev env) (y.ev env)) dst os K env σ := by
 simp only [aE, LK.step, LK.run, ct]
 cases fH op (x.ev env) (y.ev env) <;> rfl
theorem xR {t : ET} {neg : Bool} {x y : LO} : aE P dr (⟨dst, none, .eq t neg x y⟩ :: os) K env σ = ct P dr (lL (zt neg (pG σ t (x.ev env) (y.ev env)))) dst os K env σ := by
 simp only [aE, LK.step, LK.run, ct]
 cases pG σ t (x.ev env) (y.ev env) <;> simp [lL, zt]
theorem xS {op : UnOp} {x : LO} : aE P dr (⟨dst, none, .un op x⟩ :: os) K env σ = ct P dr (zx (sX op (x.ev env))) dst os K env σ := by
 simp only [aE, LK.step, LK.run, ct]
 cases sX op (x.ev env) <;> simp [zx]
theorem rq {k : IntKind} {x : LO} : aE P dr (⟨dst, none, .conv k x⟩ :: os) K env σ = ct P dr (lP k (x.ev env)) dst os K env σ := by
 simp only [aE, LK.step, LK.run, ct]
 cases x.ev env <;> simp [lP]
theorem uN {x : LO} : aE P dr (⟨dst, none, .b2s x⟩ :: os) K env σ = ct P dr (sP (dY σ (x.ev env))) dst os K env σ := by
 simp only [aE, LK.step, LK.run, ct]
 cases dY σ (x.ev env) <;> simp [sP]
 rename_i rows
 cases bytesOf rows <;> simp
theorem oN {off : Nat} {x : LO} : aE P dr (⟨dst, none, .faddr off x⟩ :: os) K env σ = ct P dr (gC off (x.ev env)) dst os K env σ := by
 simp only [aE, LK.step, LK.run, ct]
 cases x.ev env <;> simp [gC]
theorem uR {i : Nat} {x : LO} : aE P dr (⟨dst, none, .ext i x⟩ :: os) K env σ = ct P dr (rU i (x.ev env)) dst os K env σ := by
 simp only [aE, LK.step, LK.run, ct]
 cases x.ev env <;> simp [rU]
 rename_i ds
 cases ds[i]? <;> simp
theorem uS {st : Bool} {x : LO} : aE P dr (⟨dst, none, .len st x⟩ :: os) K env σ = ct P dr (lv st (x.ev env)) dst os K env σ := by
 simp only [aE, LK.step, LK.run, ct]
 cases x.ev env <;> simp [lv]
def i1 (P : Program) (dr : Bool) (st : Bool) (sz : Nat) (x : D) (lo hi : Option D) (dst : Option Nat) (os : List LOp) (K : bK → List Ob → Prop) (env : bK) (σ : List Ob) : Prop :=
 LK.run dr (.slice st sz (.c x) (lo.map .c) (hi.map .c)) (LO.ev env) σ fun d σ' => aE P dr os K (put env dst d) σ'
theorem oQ {st : Bool} {sz : Nat} {x : LO} {lo hi : Option LO} : aE P dr (⟨dst, none, .slice st sz x lo hi⟩ :: os) K env σ = i1 P dr st sz (x.ev env) (lo.map (LO.ev env)) (hi.map (LO.ev env)) dst os K env σ := by
 have e1 : ∀ x : Option LO, (Option.map (LO.ev env) ((x.map (LO.ev env)).map LO.c)) = x.map (LO.ev env) := fun x => by cases x <;> rfl
 simp only [aE, LK.step, i1, LK.run, LO.ev, e1]
theorem js {st : Bool} {sz : Nat} {nl : Option Bool} {tg : Bool} {rows : List (List D)} {lo hi : Option D} : i1 P dr st sz (.list nl tg rows) lo hi dst os K env σ = ct P dr (gM st sz (.list nl tg rows) (iC lo 0) (iC hi rows.length)) dst os K env σ := by
 have e1 : ∀ x : Option D, (Option.map (LO.ev env) (x.map LO.c)) = x := fun x => by cases x <;> rfl
 simp only [i1, LK.run, LO.ev, ct, xq, e1]
 cases iC lo 0 <;> cases iC hi rows.length <;> simp [gM, and_assoc]
theorem aU {sz l i k n z : Nat} {cl : Option Nat} {lo hi : Option D} {a b : Int} (h1 : iC lo 0 = some a) (h2 : iC hi k = some b) (h3 : z = sz ∧ 0 ≤ a ∧ a ≤ b ∧ b ≤ k) (h : aE P dr os K (put env dst (.own l (i + a.toNat) (b.toNat - a.toNat) n z cl)) σ) :
  i1 P dr false sz (.own l i k n z cl) lo hi dst os K env σ := by
 have e1 : ∀ x : Option D, (Option.map (LO.ev env) (x.map LO.c)) = x := fun x => by cases x <;> rfl
 simp only [i1, LK.run, LO.ev, xq, e1, h1, h2]
 exact ⟨trivial, h3.1, h3.2.1, h3.2.2.1, .inl ⟨h3.2.2.2, h⟩⟩
def gZ (sz : Nat) : D → Option Int → Option Int → Option Int → Option (Prop × D)
 | .list nl _ rows, some l, some h, some m => some (0 < sz ∧ (∀ r ∈ rows, r.length = sz) ∧ 0 ≤ l ∧ l ≤ h ∧ h ≤ m ∧ m ≤ rows.length, .list nl (decide (h = m)) ((rows.take h.toNat).drop l.toNat))
 | .own l' i k n z cl, some l, some h, some m => some (z = sz ∧ 0 ≤ l ∧ l ≤ h ∧ h ≤ m ∧ m ≤ k, .own l' (i + l.toNat) (h.toNat - l.toNat) n z (some (i + m.toNat)))
 | _, _, _, _ => none
def oh (P : Program) (dr : Bool) (x : D) (ag : Option Nat) (dst : Option Nat) (os : List LOp) (K : bK → List Ob → Prop) (env : bK) (σ : List Ob) : Prop :=
 aE P dr (⟨dst, none, .load ag (.c x)⟩ :: os) K env σ
def qI (P : Program) (dr : Bool) (o : Option Ob) (j i n : Nat) (ag : Option Nat) (dst : Option Nat) (os : List LOp) (K : bK → List Ob → Prop) (env : bK) (σ : List Ob) : Prop :=
 match o with
 | some o => o.rows.length = n ∧ o.real = true ∧ j < n ∧ ∀ r, o.rows[j]? = some r → ct P dr (fx r i ag) dst os K env σ
 | none => False
def qJ (P : Program) (dr : Bool) (r : Option (List D)) (i : Nat) (ag : Option Nat) (dst : Option Nat) (os : List LOp) (K : bK → List Ob → Prop) (env : bK) (σ : List Ob) : Prop :=
 ∀ r', r = some r' → ct P dr (fx r' i ag) dst os K env σ
theorem rr {ag : Option Nat} {x : LO} : aE P dr (⟨dst, none, .load ag x⟩ :: os) K env σ = oh P dr (x.ev env) ag dst os K env σ := id rfl
theorem lG {r : List D} {i : Nat} {ag : Option Nat} : oh P dr (.elt r i) ag dst os K env σ = ct P dr (fx r i ag) dst os K env σ := by
 simp only [oh, aE, LK.step, LK.run, ct, LO.ev, gS]
theorem lH {l j i n : Nat} {ag : Option Nat} : oh P dr (.ptr l j i n) ag dst os K env σ = qI P dr (σ[l]?) j i n ag dst os K env σ := by
 simp only [oh, aE, LK.step, LK.run, ct, LO.ev, gS, qI]
 cases σ[l]? <;> rfl
theorem j2 {o : Ob} {j i n : Nat} {ag : Option Nat} : qI P dr (some o) j i n ag dst os K env σ = ((o.rows.length = n ∧ o.real = true ∧ j < n) ∧ qJ P dr (o.rows[j]?) i ag dst os K env σ) := by
 simp [qI, qJ, and_assoc]
theorem j3 {r : List D} {i : Nat} {ag : Option Nat} : qJ P dr (some r) i ag dst os K env σ = ct P dr (fx r i ag) dst os K env σ := by
 simp [qJ]
theorem uP {x : LO} : aE P dr (⟨dst, none, .box x⟩ :: os) K env σ = (((x.ev env).cells ≠ [] ∧ (x.ev env).ok = true) ∧
  aE P dr os K (put env dst (.ptr σ.length 0 0 1)) (σ ++ [⟨true, false, (x.ev env).cells.all D.pt1, false, (x.ev env).cells.length, [(x.ev env).cells], some 0⟩])) := by
 simp only [aE, LK.step, LK.run, and_assoc]
theorem oL {zs : List D} : aE P dr (⟨dst, none, .alloc zs⟩ :: os) K env σ = (zs ≠ [] ∧ aE P dr os K (put env dst (.ptr σ.length 0 0 1)) (σ ++ [⟨true, false, zs.all D.pt1, false, zs.length, [zs], some 0⟩])) := by
 simp only [aE, LK.step, LK.run]
def pA (P : Program) (dr : Bool) (n : Nat) (x y : D) (dst : Option Nat) (os : List LOp) (K : bK → List Ob → Prop) (env : bK) (σ : List Ob) : Prop :=
 aE P dr (⟨dst, none, .store n (.c x) (.c y)⟩ :: os) K env σ
def mL (P : Program) (dr : Bool) (o : Option Ob) (l j i n m : Nat) (y : D) (dst : Option Nat) (os : List LOp) (K : bK → List Ob → Prop) (env : bK) (σ : List Ob) : Prop :=
 match o with
 | some o => o.rows.length = m ∧ o.real = true ∧ o.fz = false ∧ y.cells.length = n ∧ i + n ≤ o.sz ∧ y.ok = true ∧ j < m ∧
   ∀ r, o.rows[j]? = some r → aE P dr os K (put env dst .undef) (σ.set l { o with pure := o.pure && y.cells.all D.pt1, rows := o.rows.set j (splice r i y.cells) })
 | none => False
def mM (P : Program) (dr : Bool) (r : Option (List D)) (o : Ob) (l j i : Nat) (y : D) (dst : Option Nat) (os : List LOp) (K : bK → List Ob → Prop) (env : bK) (σ : List Ob) : Prop :=
 ∀ r', r = some r' → aE P dr os K (put env dst .undef) (σ.set l { o with pure := o.pure && y.cells.all D.pt1, rows := o.rows.set j (splice r' i y.cells) })
theorem oR {n : Nat} {x y : LO} : aE P dr (⟨dst, none, .store n x y⟩ :: os) K env σ = pA P dr n (x.ev env) (y.ev env) dst os K env σ := id rfl
theorem j6 {l j i m n : Nat} {y : D} : pA P dr n (.ptr l j i m) y dst os K env σ = mL P dr (σ[l]?) l j i n m y dst os K env σ := by
 simp only [pA, aE, LK.step, LK.run, LO.ev, mL]
 cases σ[l]? <;> rfl
theorem jt {o : Ob} {l j i n m : Nat} {y : D} : mL P dr (some o) l j i n m y dst os K env σ = ((o.rows.length = m ∧ o.real = true ∧ o.fz = false ∧ y.cells.length = n ∧ i + n ≤ o.sz ∧ y.ok = true ∧ j < m) ∧ mM P dr (o.rows[j]?) o l j i y dst os K env σ) := by
 simp [mL, mM, and_assoc]
theorem ju {r : List D} {o : Ob} {l j i : Nat} {y : D} : mM P dr (some r) o l j i y dst os K env σ = aE P dr os K (put env dst .undef) (σ.set l { o with pure := o.pure && y.cells.all D.pt1, rows := o.rows.set j (splice r i y.cells) }) := by
 simp [mM]
def py (P : Program) (dr : Bool) (sz : Nat) (x i : D) (dst : Option Nat) (os : List LOp) (K : bK → List Ob → Prop) (env : bK) (σ : List Ob) : Prop :=
 aE P dr (⟨dst, none, .iaddr sz (.c x) (.c i)⟩ :: os) K env σ
def mK (P : Program) (dr : Bool) (sz : Nat) (r : Option (List D)) (dst : Option Nat) (os : List LOp) (K : bK → List Ob → Prop) (env : bK) (σ : List Ob) : Prop :=
 ∀ r', r = some r' → r'.length = sz ∧ aE P dr os K (put env dst (.elt r' 0)) σ
theorem oP {sz : Nat} {x i : LO} : aE P dr (⟨dst, none, .iaddr sz x i⟩ :: os) K env σ = py P dr sz (x.ev env) (i.ev env) dst os K env σ := id rfl
theorem jq {sz : Nat} {nl : Option Bool} {tg : Bool} {rows : List (List D)} {k : IntKind} {n : Int} : py P dr sz (.list nl tg rows) (.int k n) dst os K env σ = ((0 ≤ n ∧ n < rows.length) ∧ mK P dr sz (rows[n.toNat]?) dst os K env σ) := by
 simp only [py, aE, LK.step, LK.run, LO.ev, mK, and_assoc]
theorem jr {sz : Nat} {r : List D} : mK P dr sz (some r) dst os K env σ = (r.length = sz ∧ aE P dr os K (put env dst (.elt r 0)) σ) := by
 simp [mK]
def pq (P : Program) (dr : Bool) (sz bytes : Nat) (new : List (List D)) (pu : Bool) (s : D) (dst : Option Nat) (os : List LOp) (K : bK → List Ob → Prop) (env : bK) (σ : List Ob) : Prop :=
 gx sz bytes new pu s σ fun d σ' => aE P dr os K (put env dst d) σ'
def x0 (P : Program) (dr : Bool) (sz bytes : Nat) (x : Option (List (List D) × Bool)) (s : D) (dst : Option Nat) (os : List LOp) (K : bK → List Ob → Prop) (env : bK) (σ : List Ob) : Prop :=
 match x with
 | some (new, pu) => pq P dr sz bytes new pu s dst os K env σ
 | none => False
def vH (P : Program) (dr : Bool) (o : Option Ob) (l i k n sz bytes : Nat) (cl : Option Nat) (new : List (List D)) (pu : Bool) (dst : Option Nat) (os : List LOp) (K : bK → List Ob → Prop) (env : bK) (σ : List Ob) : Prop :=
 match o with
 | some o => (o.rows.length = n ∧ (k + new.length) * bytes ≤ 140737488355328 ∧ k + new.length ≤ 9223372036854775807) ∧ eI sz new pu l i k n cl o σ fun d σ' => aE P dr os K (put env dst d) σ'
 | none => False
theorem uM {sz bytes : Nat} {s x : LO} : aE P dr (⟨dst, none, .app sz bytes s x⟩ :: os) K env σ = x0 P dr sz bytes (gi σ (x.ev env)) (s.ev env) dst os K env σ := by
 simp only [aE, LK.step, LK.run, x0, pq]
 cases gi σ (x.ev env) <;> rfl
theorem lA {sz bytes : Nat} {new : List (List D)} {pu : Bool} {s : D} : x0 P dr sz bytes (some (new, pu)) s dst os K env σ = pq P dr sz bytes new pu s dst os K env σ := id rfl
theorem nX {sz bytes : Nat} {b : Bool} {new : List (List D)} {pu : Bool} : pq P dr sz bytes new pu (.list (some b) true []) dst os K env σ = (((∀ r ∈ new, r.length = sz) ∧ 0 < sz ∧ new.length * bytes ≤ 140737488355328 ∧ new.length ≤ 9223372036854775807) ∧
  aE P dr os K (put env dst (.own σ.length 0 new.length new.length sz none)) (σ ++ [ba b sz pu new])) := by
 simp only [pq, gx, and_assoc, ba]
theorem nY {sz bytes l i k n z : Nat} {cl : Option Nat} {new : List (List D)} {pu : Bool} : pq P dr sz bytes new pu (.own l i k n z cl) dst os K env σ = (((∀ r ∈ new, r.length = sz) ∧ 0 < sz ∧ z = sz) ∧ vH P dr (σ[l]?) l i k n sz bytes cl new pu dst os K env σ) := by
 simp only [pq, gx, and_assoc, vH]
 cases σ[l]? <;> simp [and_assoc]
theorem nW {b : Bool} {sz' : Nat} {pu0 : Bool} {rows : List (List D)} {l n sz bytes : Nat} {new : List (List D)} {pu : Bool} : vH P dr (some (ba b sz' pu0 rows)) l 0 n n sz bytes none new pu dst os K env σ = ((rows.length = n ∧ (n + new.length) * bytes ≤ 140737488355328 ∧ n + new.length ≤ 9223372036854775807) ∧
  aE P dr os K (put env dst (.own l 0 (n + new.length) (n + new.length) sz none)) (σ.set l (ba b sz' (pu0 && pu) (rows ++ new)))) := by
 have e : ({ ba b sz' pu0 rows with real := (ba b sz' pu0 rows).real || !new.isEmpty, nl := (ba b sz' pu0 rows).nl && new.isEmpty, pure := (ba b sz' pu0 rows).pure && pu, rows := (ba b sz' pu0 rows).rows ++ new, spare := none } : Ob) = ba b sz' (pu0 && pu) (rows ++ new) := by
  simp only [ba]
  cases rows <;> cases new <;> simp
 simp only [vH, eI, and_self, if_true, e]
 simp only [ba, true_and]
def vI (P : Program) (o : Option Ob) (l i k n : Nat) (dst : Option Nat) (os : List LOp) (K : bK → List Ob → Prop) (env : bK) (σ : List Ob) : Prop := match o with
 | some o => o.rows.length = n ∧ if o.real = true then (match o.spare with
   | some c => aE P false os K (put env dst (.int .i64 (n + c - i : Nat))) σ
   | none => o.fz = false ∧ ∀ c : Nat, n + c ≤ 9223372036854775807 → aE P false os K (put env dst (.int .i64 (n + c - i : Nat))) (σ.set l { o with spare := some c })) else aE P false os K (put env dst (.int .i64 0)) σ
 | none => False
def t3 (o : Option Ob) (i k n : Nat) : Option (List (List D) × Bool) := match o with
 | some o => if o.rows.length = n ∧ (o.pure || (cw i k n o.rows).all fun r => r.all D.one) = true then some (cw i k n o.rows, o.pure) else none
 | none => none
theorem kH {σ : List Ob} {nl : Option Bool} {tg : Bool} {rows : List (List D)} : gi σ (.list nl tg rows) = some (rows, true) := id rfl
theorem mh {σ : List Ob} {l i k n z : Nat} {cl : Option Nat} : gi σ (.own l i k n z cl) = t3 (σ[l]?) i k n := by
 simp only [gi, t3]; cases σ[l]? <;> rfl
theorem kI {o : Ob} {i k n : Nat} : t3 (some o) i k n = if o.rows.length = n ∧ (o.pure || (cw i k n o.rows).all fun r => r.all D.one) = true then some (cw i k n o.rows, o.pure) else none := id rfl
theorem eH {n : Nat} {rows : List (List D)} : cw 0 n n rows = rows := by simp [cw]
def lg (o : Option Ob) (i k n : Nat) : Option (List (List D)) := match o with
 | some o => if o.rows.length = n ∧ (o.pure || (cw i k n o.rows).all fun r => r.all D.pt1) = true then some (cw i k n o.rows) else none
 | none => none
theorem ge {σ : List Ob} {nl : Option Bool} {tg : Bool} {rows : List (List D)} : dY σ (.list nl tg rows) = some rows := id rfl
theorem dl {σ : List Ob} {l i k n z : Nat} {cl : Option Nat} : dY σ (.own l i k n z cl) = lg (σ[l]?) i k n := by
 simp only [dY, lg]; cases σ[l]? <;> rfl
theorem dk {o : Ob} {i k n : Nat} : lg (some o) i k n = if o.rows.length = n ∧ (o.pure || (cw i k n o.rows).all fun r => r.all D.pt1) = true then some (cw i k n o.rows) else none := id rfl
theorem uY : eX P [] K env σ = K env σ := id rfl
theorem rB {o : LOp} {ts : List Nat} {os : List (LOp × List Nat)} : eX P ((o, ts) :: os) K env σ = aE P true [o] (fun env1 σ1 => eX P os (kr ts σ σ1 K) env1 σ1) env σ := id rfl
theorem ma {σ1 : List Ob} : kr [] σ σ1 K = K := id rfl
def iH (σ σ1 : List Ob) : List Nat → Prop
 | [] => True
 | l :: ls => σ[l]? = σ1[l]? ∧ iH σ σ1 ls
def jy (σ σ1 : List Ob) (env : bK) : List Nat → Prop
 | [] => True
 | t :: ts => iH σ σ1 (lk env t).names ∧ jy σ σ1 env ts
theorem mc {σ1 : List Ob} : iH σ σ1 [] = True := id rfl
theorem ku {σ1 : List Ob} {l : Nat} {ls : List Nat} : iH σ σ1 (l :: ls) = (σ[l]? = σ1[l]? ∧ iH σ σ1 ls) := id rfl
theorem lZ {σ1 : List Ob} : jy σ σ1 env [] = True := id rfl
theorem kp {σ1 : List Ob} {t : Nat} {ts : List Nat} : jy σ σ1 env (t :: ts) = (iH σ σ1 (lk env t).names ∧ jy σ σ1 env ts) := id rfl
theorem mb {σ1 : List Ob} : ∀ (ls : List Nat), iH σ σ1 ls ↔ ∀ l ∈ ls, σ[l]? = σ1[l]?
 | [] => by simp [iH]
 | l :: ls => by simp [iH, mb ls]
theorem lY {σ1 : List Ob} : ∀ (ts : List Nat), jy σ σ1 env ts ↔ ∀ t ∈ ts, cS σ σ1 (lk env t)
 | [] => by simp [jy]
 | t :: ts => by simp [jy, lY ts, mb, cS]
theorem kt {t : Nat} {ts : List Nat} {σ1 σ2 : List Ob} : kr (t :: ts) σ σ1 K env σ2 = (jy σ σ1 env (t :: ts) ∧ K env σ2) := by
 rw [show kr (t :: ts) σ σ1 K env σ2 = ((∀ x ∈ t :: ts, cS σ σ1 (lk env x)) ∧ K env σ2) from rfl, ← lY]
def dR (P : Program) (dr : Bool) (d : D) (want : Bool) (dst : Option Nat) (k : LK) (os : List LOp) (K : bK → List Ob → Prop) (env : bK) (σ : List Ob) : Prop :=
 ∃ g, gv d g ∧ (g = some want → aE P dr (⟨dst, none, k⟩ :: os) K env σ) ∧ (g ≠ some want → aE P dr os K (put env dst (.tup [])) σ)
theorem oO {t : Nat} {want : Bool} {k : LK} : aE P dr (⟨dst, some (t, want), k⟩ :: os) K env σ = dR P dr (lk env t) want dst k os K env σ := id rfl
theorem jQ {b : Bool} {g : Option Bool} : gv (.bool b) g = (g = some b) := by
 cases g <;> simp [gv, eq_comm]
theorem yY {g : Option Bool} : gv (.tup []) g = (g = none) := by
 cases g <;> simp [gv]
theorem lF {k : LK} : dR P dr (.bool true) true dst k os K env σ = aE P dr (⟨dst, none, k⟩ :: os) K env σ := by simp [dR, jQ]
theorem lB {k : LK} : dR P dr (.bool false) false dst k os K env σ = aE P dr (⟨dst, none, k⟩ :: os) K env σ := by simp [dR, jQ]
theorem lE {k : LK} : dR P dr (.bool true) false dst k os K env σ = aE P dr os K (put env dst (.tup [])) σ := by simp [dR, jQ]
theorem lC {k : LK} : dR P dr (.bool false) true dst k os K env σ = aE P dr os K (put env dst (.tup [])) σ := by simp [dR, jQ]
theorem lD {k : LK} {want : Bool} : dR P dr (.tup []) want dst k os K env σ = aE P dr os K (put env dst (.tup [])) σ := by simp [dR, yY]
theorem aj {b want : Bool} {k : LK} (h1 : b = true → dR P dr (.bool true) want dst k os K env σ) (h2 : b = false → dR P dr (.bool false) want dst k os K env σ) : dR P dr (.bool b) want dst k os K env σ := by
 cases b
 ·exact h2 rfl
 ·exact h1 rfl
theorem wA {f : LO} {args : List LO} {fid : FuncId} {caps : List D} {ds' : List D} {r : D} (hb : fid < bB) (h : aP P fid ds' r) (hf : f.ev env = .fn fid caps) (hv : bV (eF σ) (args.map (LO.ev env) ++ caps) = some ds') (hs : ((args.map (LO.ev env) ++ caps).all D.pt || r.sc) = true)
  (hk : aE P dr os K (put env dst r) σ) : aE P dr (⟨dst, none, .call f args⟩ :: os) K env σ := by
 simp only [aE, LK.step, jo, hf, kg hb, kf hb]
 cases dr with
 | true => exact ⟨r, ds', hv, h, hs, hk⟩
 | false => exact ⟨_, eP h hv hs, fun d σ' ⟨h1, h2⟩ => by rw [h1, h2]; exact hk⟩
theorem uV {f : LO} {args : List LO} {fid : FuncId} {caps : List D} {ds' : List D} {r : D} (hb : fid < bB) (h : aP P fid ds' r) (hf : f.ev env = .fn fid caps) (hv : bV (eF σ) (args.map (LO.ev env) ++ caps) = some ds') (hs : ((args.map (LO.ev env) ++ caps).all D.pt || r.sc) = true)
  (hk : aE P dr os K (put env dst r) σ) : aE P dr (⟨dst, none, .callX f args⟩ :: os) K env σ := by
 simp only [aE, LK.step, io, hf, kg hb, kf hb]
 cases dr with
 | true => exact ⟨r, σ, eP h hv hs, hk⟩
 | false => exact ⟨_, eP h hv hs, fun d σ' ⟨h1, h2⟩ => by rw [h1, h2]; exact hk⟩
theorem tX {n : Nat} : lk [] n = .undef := id rfl
theorem oI {k : Nat} {d : D} {e : bK} : put e (some k) d = (k, d) :: e := id rfl
theorem oH {d : D} {e : bK} : put e none d = e := id rfl
theorem ev_t {n : Nat} {env : bK} : LO.ev env (.t n) = lk env n := id rfl
theorem ev_c {d : D} {env : bK} : LO.ev env (.c d) = d := id rfl
def jp (P : Program) (N : Nat) (base : List Ob) (d : D) (x y : LC) (k : List LI) (post : bK → List Ob → Prop) (env : bK) (σ : List Ob) : Prop :=
 ∃ v, d = .bool v ∧ (v = true → dQ P N base (.code x :: k) post env σ) ∧ (v = false → dQ P N base (.code y :: k) post env σ)
theorem ab {N : Nat} {base : List Ob} {c : LO} {x y : LC} {k : List LI} {post : bK → List Ob → Prop} (h : jp P N base (c.ev env) x y k post env σ) : dQ P N base (.code (.cond c x y) :: k) post env σ := by
 obtain ⟨v, h1, h2, h3⟩ := h
 exact tf h1 h2 h3
theorem qH {N : Nat} {base : List Ob} {x y : LC} {k : List LI} {post : bK → List Ob → Prop} : jp P N base (.bool true) x y k post env σ = dQ P N base (.code x :: k) post env σ := by simp [jp]
theorem qG {N : Nat} {base : List Ob} {x y : LC} {k : List LI} {post : bK → List Ob → Prop} : jp P N base (.bool false) x y k post env σ = dQ P N base (.code y :: k) post env σ := by simp [jp]
theorem aa {N : Nat} {base : List Ob} {b : Bool} {x y : LC} {k : List LI} {post : bK → List Ob → Prop} (h1 : b = true → jp P N base (.bool true) x y k post env σ) (h2 : b = false → jp P N base (.bool false) x y k post env σ) :
  jp P N base (.bool b) x y k post env σ := by
 cases b
 ·exact h2 rfl
 ·exact h1 rfl
end
end Go.Vi
