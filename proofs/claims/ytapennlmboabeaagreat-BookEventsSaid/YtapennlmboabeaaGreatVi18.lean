import Derived.Test.YtapennlmboabeaaGreatVi17
set_option linter.unusedVariables false
set_option linter.unusedSimpArgs false
set_option linter.unnecessarySimpa false
namespace Go.Vi
open Go Go.RowKit
def fE (r : List D) (i : Nat) : Option Nat → Option (Prop × D)
 | none => match r[i]? with
  | some d => some (True, d)
  | none => none
 | some n => some (i + n ≤ r.length, .agg ((r.drop i).take n))
def gb : Option D → Nat → Option Int
 | none, z => some z
 | some (.int _ n), _ => some n
 | some _, _ => none
def bw (b : Bool) (sz : Nat) (pu : Bool) (rows : List (List D)) : Ob := ⟨!rows.isEmpty, b && rows.isEmpty, pu, false, sz, rows, none⟩
theorem aO {b : Bool} {sz : Nat} {pu : Bool} {rows : List (List D)} : (bw b sz pu rows).real = !rows.isEmpty := id rfl
theorem dg {b : Bool} {sz : Nat} {pu : Bool} {rows : List (List D)} : (bw b sz pu rows).nl = (b && rows.isEmpty) := id rfl
theorem aK {b : Bool} {sz : Nat} {pu : Bool} {rows : List (List D)} : (bw b sz pu rows).pure = pu := id rfl
theorem df {b : Bool} {sz : Nat} {pu : Bool} {rows : List (List D)} : (bw b sz pu rows).fz = false := id rfl
theorem dh {b : Bool} {sz : Nat} {pu : Bool} {rows : List (List D)} : (bw b sz pu rows).sz = sz := id rfl
theorem aL {b : Bool} {sz : Nat} {pu : Bool} {rows : List (List D)} : (bw b sz pu rows).rows = rows := id rfl
theorem ay {b : Bool} {sz : Nat} {pu : Bool} {rows : List (List D)} : (bw b sz pu rows).spare = none := id rfl
def ee (st : Bool) (sz : Nat) : D → Option Int → Option Int → Option (Prop × D)
 | .str s, some l, some h => some (st = true ∧ 0 ≤ l ∧ l ≤ h ∧ h ≤ s.size, .str (s.extract l.toNat h.toNat))
 | .list nl _ rows, some l, some h => some (st = false ∧ 0 < sz ∧ (∀ r ∈ rows, r.length = sz) ∧ 0 ≤ l ∧ l ≤ h ∧ h ≤ rows.length, .list nl false ((rows.take h.toNat).drop l.toNat))
 | _, _, _ => none
def gh : D → D → D → Option (Prop × D)
 | .bool v, a, b => some (True, bif v then a else b)
 | _, _, _ => none
def ip : D → Option (Prop × D)
 | .ptr l j i n => some (True, .ptr l j i n)
 | .elt r i => some (True, .elt r i)
 | .fn f cs => some (True, .fn f cs)
 | _ => none
def gg (k : IntKind) : D → Option (Prop × D)
 | .int _ n => some (True, .int k (k.wrap n))
 | _ => none
def gi : D → Option (Prop × D)
 | .str s => some (True, .str s)
 | _ => none
def iy : Option (List (List D)) → Option (Prop × D)
 | some rows => match bytesOf rows with
  | some l => some (True, .str ⟨l.toArray⟩)
  | none => none
 | none => none
def eu (off : Nat) : D → Option (Prop × D)
 | .ptr l j i n => some (True, .ptr l j (i + off) n)
 | .elt r i => some (True, .elt r (i + off))
 | _ => none
def ir (off : Nat) (ag : Option Nat) : D → Option (Prop × D)
 | .agg cs => fE cs off ag
 | _ => none
def iu : D → D → Option (Prop × D)
 | .str s, .int _ n => some (0 ≤ n ∧ n < s.size, .int .u8 (bt s n))
 | _, _ => none
def iq (i : Nat) : D → Option (Prop × D)
 | .tup ds => match ds[i]? with
  | some d => some (True, d)
  | none => none
 | _ => none
def iv (st : Bool) : D → Option (Prop × D)
 | .str s => some (st = true, .int .i64 s.size)
 | .list _ _ rows => some (st = false, .int .i64 rows.length)
 | .own _ _ k _ _ _ => some (st = false, .int .i64 k)
 | _ => none
def kQ : D → D → Option (Prop × D)
 | .int k a, .int _ b => some (True, .int k (if b > a then b else a))
 | _, _ => none
def kP : D → D → Option (Prop × D)
 | .int k a, .int _ b => some (True, .int k (if b < a then b else a))
 | _, _ => none
def kR : Option D → Option (Prop × D)
 | some d => some (True, d)
 | none => none
def io : Option (List D) → Option (Prop × D)
 | some cs => some (True, .agg cs)
 | none => none
def gf : Option Bool → Option (Prop × D)
 | some b => some (True, .bool b)
 | none => none
def kM (neg : Bool) : Option Bool → Option Bool
 | some b => some (bif neg then !b else b)
 | none => none
def fG (P : Program) (dr : Bool) (r : Option (Prop × D)) (dst : Option Nat) (os : List LOp) (K : fy → List Ob → Prop) (env : fy) (σ : List Ob) : Prop :=
 match r with
 | some (p, d) => p ∧ af P dr os K (put env dst d) σ
 | none => False
section
variable {P : Program} {dr : Bool} {dst : Option Nat} {os : List LOp} {K : fy → List Ob → Prop} {env : fy} {σ : List Ob}
theorem aZ {p : Prop} {d : D} : fG P dr (some (p, d)) dst os K env σ = (p ∧ af P dr os K (put env dst d) σ) := id rfl
theorem ft : af P dr [] K env σ = K env σ := id rfl
theorem fq {x : LO} : af P dr (⟨dst, none, .mov x⟩ :: os) K env σ = af P dr os K (put env dst (x.ev env)) σ := id rfl
theorem dN {f : FuncId} {caps : List LO} : af P dr (⟨dst, none, .mkfn f caps⟩ :: os) K env σ = af P dr os K (put env dst (.fn f (caps.map (LO.ev env)))) σ := id rfl
theorem kl {r : List D} {i : Nat} {ag : Option Nat} {K : D → Prop} : fX r i ag K = match fE r i ag with
  | some (p, d) => p ∧ K d
  | none => False := by
 cases ag with
 | none => simp only [fX, fE]; cases r[i]? <;> simp
 | some n => simp [fX, fE]
theorem qc {x : Option D} {z : Nat} {K : Int → Prop} : pV x z K = match gb x z with
  | some n => K n
  | none => False := by
 unfold pV gb
 cases x with
 | none => rfl
 | some d => cases d <;> rfl
theorem dO {c a b : LO} : af P dr (⟨dst, none, .pick c a b⟩ :: os) K env σ = fG P dr (gh (c.ev env) (a.ev env) (b.ev env)) dst os K env σ := by
 simp only [af, LK.step, LK.run, fG]
 cases c.ev env <;> simp [gh]
theorem cL {zs : List D} {ps : List (Nat × Nat × LO)} : af P dr (⟨dst, none, .build zs ps⟩ :: os) K env σ = fG P dr (io (fN (LO.ev env) zs ps)) dst os K env σ := by
 simp only [af, LK.step, LK.run, fG]
 cases fN (LO.ev env) zs ps <;> simp [io]
def qb (P : Program) (dr : Bool) (sz : Nat) (ds : List D) (pt : Bool) (dst : Option Nat) (os : List LOp) (K : fy → List Ob → Prop) (env : fy) (σ : List Ob) : Prop :=
 if pt = true then af P dr os K (put env dst (.list (some false) true (ds.map fun x => x.cells.map D.norm1))) σ
 else dr = false ∧ af P dr os K (put env dst (.own σ.length 0 ds.length ds.length sz none)) (σ ++ [⟨true, false, false, false, sz, ds.map D.cells, some 0⟩])
theorem dF {sz : Nat} {ds : List D} : qb P dr sz ds true dst os K env σ = af P dr os K (put env dst (.list (some false) true (ds.map fun x => x.cells.map D.norm1))) σ := by simp [qb]
theorem dE {sz : Nat} {ds : List D} : qb P false sz ds false dst os K env σ = af P false os K (put env dst (.own σ.length 0 ds.length ds.length sz none)) (σ ++ [⟨true, false, false, false, sz, ds.map D.cells, some 0⟩]) := by simp [qb]
theorem dQ {sz : Nat} {xs : List LO} : af P dr (⟨dst, none, .slit sz xs⟩ :: os) K env σ = ((0 < sz ∧ ∀ x ∈ xs.map (LO.ev env), x.cells.length = sz ∧ x.ok = true) ∧
  qb P dr sz (xs.map (LO.ev env)) ((xs.map (LO.ev env)).all D.pt) dst os K env σ) := by
 simp only [af, LK.step, LK.run, qb]
 simp [and_assoc, Function.comp_def]
theorem fe {x : LO} : af P dr (⟨dst, none, .chk x⟩ :: os) K env σ = fG P dr (ip (x.ev env)) dst os K env σ := by
 simp only [af, LK.step, LK.run, fG]
 cases x.ev env <;> simp [ip]
theorem eY {op : BinOp} {x y : LO} : af P dr (⟨dst, none, .bin op x y⟩ :: os) K env σ = fG P dr (ia op (x.ev env) (y.ev env)) dst os K env σ := by
 simp only [af, LK.step, LK.run, fG]
 cases ia op (x.ev env) (y.ev env) <;> rfl
theorem gr {t : ET} {neg : Bool} {x y : LO} : af P dr (⟨dst, none, .eq t neg x y⟩ :: os) K env σ = fG P dr (gf (kM neg (tl σ t (x.ev env) (y.ev env)))) dst os K env σ := by
 simp only [af, LK.step, LK.run, fG]
 cases tl σ t (x.ev env) (y.ev env) <;> simp [gf, kM]
theorem gw {op : UnOp} {x : LO} : af P dr (⟨dst, none, .un op x⟩ :: os) K env σ = fG P dr (kR (ky op (x.ev env))) dst os K env σ := by
 simp only [af, LK.step, LK.run, fG]
 cases ky op (x.ev env) <;> simp [kR]
theorem dK {k : IntKind} {x : LO} : af P dr (⟨dst, none, .conv k x⟩ :: os) K env σ = fG P dr (gg k (x.ev env)) dst os K env σ := by
 simp only [af, LK.step, LK.run, fG]
 cases x.ev env <;> simp [gg]
theorem dP {x : LO} : af P dr (⟨dst, none, .same x⟩ :: os) K env σ = fG P dr (gi (x.ev env)) dst os K env σ := by
 simp only [af, LK.step, LK.run, fG]
 cases x.ev env <;> simp [gi]
theorem eX {x : LO} : af P dr (⟨dst, none, .b2s x⟩ :: os) K env σ = fG P dr (iy (jk σ (x.ev env))) dst os K env σ := by
 simp only [af, LK.step, LK.run, fG]
 cases jk σ (x.ev env) <;> simp [iy]
 rename_i rows
 cases bytesOf rows <;> simp
theorem cO {off : Nat} {x : LO} : af P dr (⟨dst, none, .faddr off x⟩ :: os) K env σ = fG P dr (eu off (x.ev env)) dst os K env σ := by
 simp only [af, LK.step, LK.run, fG]
 cases x.ev env <;> simp [eu]
theorem fg {off : Nat} {ag : Option Nat} {x : LO} : af P dr (⟨dst, none, .fld off ag x⟩ :: os) K env σ = fG P dr (ir off ag (x.ev env)) dst os K env σ := by
 simp only [af, LK.step, LK.run, fG]
 cases x.ev env <;> simp [ir, kl]
theorem fh {x i : LO} : af P dr (⟨dst, none, .idx x i⟩ :: os) K env σ = fG P dr (iu (x.ev env) (i.ev env)) dst os K env σ := by
 simp only [af, LK.step, LK.run, fG]
 cases x.ev env <;> cases i.ev env <;> simp [iu, and_assoc]
theorem ff {i : Nat} {x : LO} : af P dr (⟨dst, none, .ext i x⟩ :: os) K env σ = fG P dr (iq i (x.ev env)) dst os K env σ := by
 simp only [af, LK.step, LK.run, fG]
 cases x.ev env <;> simp [iq]
 rename_i ds
 cases ds[i]? <;> simp
theorem fk {st : Bool} {x : LO} : af P dr (⟨dst, none, .len st x⟩ :: os) K env σ = fG P dr (iv st (x.ev env)) dst os K env σ := by
 simp only [af, LK.step, LK.run, fG]
 cases x.ev env <;> simp [iv]
theorem gu {x y : LO} : af P dr (⟨dst, none, .mx x y⟩ :: os) K env σ = fG P dr (kQ (x.ev env) (y.ev env)) dst os K env σ := by
 simp only [af, LK.step, LK.run, fG]
 cases x.ev env <;> cases y.ev env <;> simp [kQ]
theorem gt {x y : LO} : af P dr (⟨dst, none, .mn x y⟩ :: os) K env σ = fG P dr (kP (x.ev env) (y.ev env)) dst os K env σ := by
 simp only [af, LK.step, LK.run, fG]
 cases x.ev env <;> cases y.ev env <;> simp [kP]
def jy (P : Program) (dr : Bool) (st : Bool) (sz : Nat) (x : D) (lo hi : Option D) (dst : Option Nat) (os : List LOp) (K : fy → List Ob → Prop) (env : fy) (σ : List Ob) : Prop :=
 LK.run dr (.slice st sz (.c x) (lo.map .c) (hi.map .c)) (LO.ev env) σ fun d σ' => af P dr os K (put env dst d) σ'
theorem cR {st : Bool} {sz : Nat} {x : LO} {lo hi : Option LO} : af P dr (⟨dst, none, .slice st sz x lo hi⟩ :: os) K env σ = jy P dr st sz (x.ev env) (lo.map (LO.ev env)) (hi.map (LO.ev env)) dst os K env σ := by
 have e1 : ∀ x : Option LO, (Option.map (LO.ev env) ((x.map (LO.ev env)).map LO.c)) = x.map (LO.ev env) := fun x => by cases x <;> rfl
 simp only [af, LK.step, jy, LK.run, LO.ev, e1]
theorem aX {st : Bool} {sz : Nat} {s : ByteArray} {lo hi : Option D} : jy P dr st sz (.str s) lo hi dst os K env σ = fG P dr (ee st sz (.str s) (gb lo 0) (gb hi s.size)) dst os K env σ := by
 have e1 : ∀ x : Option D, (Option.map (LO.ev env) (x.map LO.c)) = x := fun x => by cases x <;> rfl
 simp only [jy, LK.run, LO.ev, fG, qc, e1]
 cases gb lo 0 <;> cases gb hi s.size <;> simp [ee, and_assoc]
theorem aG {st : Bool} {sz : Nat} {nl : Option Bool} {tg : Bool} {rows : List (List D)} {lo hi : Option D} : jy P dr st sz (.list nl tg rows) lo hi dst os K env σ = fG P dr (ee st sz (.list nl tg rows) (gb lo 0) (gb hi rows.length)) dst os K env σ := by
 have e1 : ∀ x : Option D, (Option.map (LO.ev env) (x.map LO.c)) = x := fun x => by cases x <;> rfl
 simp only [jy, LK.run, LO.ev, fG, qc, e1]
 cases gb lo 0 <;> cases gb hi rows.length <;> simp [ee, and_assoc]
theorem bq {sz l i k n z : Nat} {cl : Option Nat} {lo hi : Option D} {a b : Int} (h1 : gb lo 0 = some a) (h2 : gb hi k = some b) (h3 : z = sz ∧ 0 ≤ a ∧ a ≤ b ∧ b ≤ k) (h : af P dr os K (put env dst (.own l (i + a.toNat) (b.toNat - a.toNat) n z cl)) σ) :
  jy P dr false sz (.own l i k n z cl) lo hi dst os K env σ := by
 have e1 : ∀ x : Option D, (Option.map (LO.ev env) (x.map LO.c)) = x := fun x => by cases x <;> rfl
 simp only [jy, LK.run, LO.ev, qc, e1, h1, h2]
 exact ⟨trivial, h3.1, h3.2.1, h3.2.2.1, .inl ⟨h3.2.2.2, h⟩⟩
theorem sj {sz l i k n z : Nat} {lo hi : Option D} {a b : Int} {o : Ob} (h1 : gb lo 0 = some a) (h2 : gb hi k = some b) (ho : σ[l]? = some o) (h3 : z = sz ∧ 0 ≤ a ∧ a ≤ b ∧ k < b) (h4 : o.rows.length = n ∧ o.real = true ∧ i + b.toNat ≤ n) (h : af P false os K (put env dst (.own l (i + a.toNat) (b.toNat - a.toNat) n z none)) σ) :
  jy P false false sz (.own l i k n z none) lo hi dst os K env σ := by
 have e1 : ∀ x : Option D, (Option.map (LO.ev env) (x.map LO.c)) = x := fun x => by cases x <;> rfl
 simp only [jy, LK.run, LO.ev, qc, e1, h1, h2, ho]
 exact ⟨trivial, h3.1, h3.2.1, h3.2.2.1, .inr ⟨trivial, h3.2.2.2, trivial, h4.1, h4.2.1, .inl ⟨h4.2.2, h⟩⟩⟩
theorem qX {sz l i k n z : Nat} {lo hi : Option D} {a b : Int} {o : Ob} {c : Nat} (h1 : gb lo 0 = some a) (h2 : gb hi k = some b) (ho : σ[l]? = some o) (h3 : z = sz ∧ 0 ≤ a ∧ a ≤ b ∧ k < b) (h4 : o.rows.length = n ∧ o.real = true ∧ o.fz = false ∧ n < i + b.toNat ∧ o.spare = some c ∧ i + b.toNat ≤ n + c)
  (h : af P false os K (put env dst (.own l (i + a.toNat) (b.toNat - a.toNat) (i + b.toNat) z none)) (σ.set l { o with pure := false, rows := o.rows ++ List.replicate (i + b.toNat - n) (List.replicate sz .undef), spare := some (n + c - (i + b.toNat)) })) :
  jy P false false sz (.own l i k n z none) lo hi dst os K env σ := by
 have e1 : ∀ x : Option D, (Option.map (LO.ev env) (x.map LO.c)) = x := fun x => by cases x <;> rfl
 simp only [jy, LK.run, LO.ev, qc, e1, h1, h2, ho]
 exact ⟨trivial, h3.1, h3.2.1, h3.2.2.1, .inr ⟨trivial, h3.2.2.2, trivial, h4.1, h4.2.1, .inr ⟨h4.2.2.1, h4.2.2.2.1, c, h4.2.2.2.2.1, h4.2.2.2.2.2, h⟩⟩⟩
def dp (sz : Nat) : D → Option Int → Option Int → Option Int → Option (Prop × D)
 | .list nl _ rows, some l, some h, some m => some (0 < sz ∧ (∀ r ∈ rows, r.length = sz) ∧ 0 ≤ l ∧ l ≤ h ∧ h ≤ m ∧ m ≤ rows.length, .list nl (decide (h = m)) ((rows.take h.toNat).drop l.toNat))
 | .own l' i k n z cl, some l, some h, some m => some (z = sz ∧ 0 ≤ l ∧ l ≤ h ∧ h ≤ m ∧ m ≤ k, .own l' (i + l.toNat) (h.toNat - l.toNat) n z (some (i + m.toNat)))
 | _, _, _, _ => none
theorem cf {sz : Nat} {x : LO} {lo : Option LO} {hi m : LO} : af P dr (⟨dst, none, .slice3 sz x lo hi m⟩ :: os) K env σ =
  fG P dr (dp sz (x.ev env) (gb (lo.map (LO.ev env)) 0) (gb (some (hi.ev env)) 0) (gb (some (m.ev env)) 0)) dst os K env σ := by
 simp only [af, LK.step, LK.run, fG]
 cases hx : x.ev env <;> simp only [dp, qc] <;> (try (cases gb (lo.map (LO.ev env)) 0 <;> cases gb (some (hi.ev env)) 0 <;> cases gb (some (m.ev env)) 0 <;> simp [and_assoc]))
def si (P : Program) (dr : Bool) (x : D) (ag : Option Nat) (dst : Option Nat) (os : List LOp) (K : fy → List Ob → Prop) (env : fy) (σ : List Ob) : Prop :=
 af P dr (⟨dst, none, .load ag (.c x)⟩ :: os) K env σ
def uK (P : Program) (dr : Bool) (o : Option Ob) (j i n : Nat) (ag : Option Nat) (dst : Option Nat) (os : List LOp) (K : fy → List Ob → Prop) (env : fy) (σ : List Ob) : Prop :=
 match o with
 | some o => o.rows.length = n ∧ o.real = true ∧ j < n ∧ ∀ r, o.rows[j]? = some r → fG P dr (fE r i ag) dst os K env σ
 | none => False
def qa (P : Program) (dr : Bool) (r : Option (List D)) (i : Nat) (ag : Option Nat) (dst : Option Nat) (os : List LOp) (K : fy → List Ob → Prop) (env : fy) (σ : List Ob) : Prop :=
 ∀ r', r = some r' → fG P dr (fE r' i ag) dst os K env σ
theorem dM {ag : Option Nat} {x : LO} : af P dr (⟨dst, none, .load ag x⟩ :: os) K env σ = si P dr (x.ev env) ag dst os K env σ := id rfl
theorem bL {r : List D} {i : Nat} {ag : Option Nat} : si P dr (.elt r i) ag dst os K env σ = fG P dr (fE r i ag) dst os K env σ := by
 simp only [si, af, LK.step, LK.run, fG, LO.ev, kl]
theorem bM {l j i n : Nat} {ag : Option Nat} : si P dr (.ptr l j i n) ag dst os K env σ = uK P dr (σ[l]?) j i n ag dst os K env σ := by
 simp only [si, af, LK.step, LK.run, fG, LO.ev, kl, uK]
 cases σ[l]? <;> rfl
theorem aW {o : Ob} {j i n : Nat} {ag : Option Nat} : uK P dr (some o) j i n ag dst os K env σ = ((o.rows.length = n ∧ o.real = true ∧ j < n) ∧ qa P dr (o.rows[j]?) i ag dst os K env σ) := by
 simp [uK, qa, and_assoc]
theorem aB {r : List D} {i : Nat} {ag : Option Nat} : qa P dr (some r) i ag dst os K env σ = fG P dr (fE r i ag) dst os K env σ := by
 simp [qa]
theorem bN {α : Type} {f : α → List D} {xs : List α} {m i : Nat} {ag : Option Nat} : qa P dr ((xs.map f)[m]?) i ag dst os K env σ = ∀ x, xs[m]? = some x → fG P dr (fE (f x) i ag) dst os K env σ := by
 simp [qa]
theorem eZ {x : LO} : af P dr (⟨dst, none, .box x⟩ :: os) K env σ = (((x.ev env).cells ≠ [] ∧ (x.ev env).ok = true) ∧
  af P dr os K (put env dst (.ptr σ.length 0 0 1)) (σ ++ [⟨true, false, (x.ev env).cells.all D.pt1, false, (x.ev env).cells.length, [(x.ev env).cells], some 0⟩])) := by
 simp only [af, LK.step, LK.run, and_assoc]
theorem cK {zs : List D} : af P dr (⟨dst, none, .alloc zs⟩ :: os) K env σ = (zs ≠ [] ∧ af P dr os K (put env dst (.ptr σ.length 0 0 1)) (σ ++ [⟨true, false, zs.all D.pt1, false, zs.length, [zs], some 0⟩])) := by
 simp only [af, LK.step, LK.run]
def tD (P : Program) (dr : Bool) (n : Nat) (x y : D) (dst : Option Nat) (os : List LOp) (K : fy → List Ob → Prop) (env : fy) (σ : List Ob) : Prop :=
 af P dr (⟨dst, none, .store n (.c x) (.c y)⟩ :: os) K env σ
def qY (P : Program) (dr : Bool) (o : Option Ob) (l j i n m : Nat) (y : D) (dst : Option Nat) (os : List LOp) (K : fy → List Ob → Prop) (env : fy) (σ : List Ob) : Prop :=
 match o with
 | some o => o.rows.length = m ∧ o.real = true ∧ o.fz = false ∧ y.cells.length = n ∧ i + n ≤ o.sz ∧ y.ok = true ∧ j < m ∧
   ∀ r, o.rows[j]? = some r → af P dr os K (put env dst .undef) (σ.set l { o with pure := o.pure && y.cells.all D.pt1, rows := o.rows.set j (splice r i y.cells) })
 | none => False
def qZ (P : Program) (dr : Bool) (r : Option (List D)) (o : Ob) (l j i : Nat) (y : D) (dst : Option Nat) (os : List LOp) (K : fy → List Ob → Prop) (env : fy) (σ : List Ob) : Prop :=
 ∀ r', r = some r' → af P dr os K (put env dst .undef) (σ.set l { o with pure := o.pure && y.cells.all D.pt1, rows := o.rows.set j (splice r' i y.cells) })
theorem cS {n : Nat} {x y : LO} : af P dr (⟨dst, none, .store n x y⟩ :: os) K env σ = tD P dr n (x.ev env) (y.ev env) dst os K env σ := id rfl
theorem aY {l j i m n : Nat} {y : D} : tD P dr n (.ptr l j i m) y dst os K env σ = qY P dr (σ[l]?) l j i n m y dst os K env σ := by
 simp only [tD, af, LK.step, LK.run, LO.ev, qY]
 cases σ[l]? <;> rfl
theorem aH {o : Ob} {l j i n m : Nat} {y : D} : qY P dr (some o) l j i n m y dst os K env σ = ((o.rows.length = m ∧ o.real = true ∧ o.fz = false ∧ y.cells.length = n ∧ i + n ≤ o.sz ∧ y.ok = true ∧ j < m) ∧ qZ P dr (o.rows[j]?) o l j i y dst os K env σ) := by
 simp [qY, qZ, and_assoc]
theorem aI {r : List D} {o : Ob} {l j i : Nat} {y : D} : qZ P dr (some r) o l j i y dst os K env σ = af P dr os K (put env dst .undef) (σ.set l { o with pure := o.pure && y.cells.all D.pt1, rows := o.rows.set j (splice r i y.cells) }) := by
 simp [qZ]
def oQ (P : Program) (dr : Bool) (sz : Nat) (x i : D) (dst : Option Nat) (os : List LOp) (K : fy → List Ob → Prop) (env : fy) (σ : List Ob) : Prop :=
 af P dr (⟨dst, none, .iaddr sz (.c x) (.c i)⟩ :: os) K env σ
def m4 (P : Program) (dr : Bool) (sz : Nat) (r : Option (List D)) (dst : Option Nat) (os : List LOp) (K : fy → List Ob → Prop) (env : fy) (σ : List Ob) : Prop :=
 ∀ r', r = some r' → r'.length = sz ∧ af P dr os K (put env dst (.elt r' 0)) σ
theorem cQ {sz : Nat} {x i : LO} : af P dr (⟨dst, none, .iaddr sz x i⟩ :: os) K env σ = oQ P dr sz (x.ev env) (i.ev env) dst os K env σ := id rfl
theorem aF {sz : Nat} {nl : Option Bool} {tg : Bool} {rows : List (List D)} {k : IntKind} {n : Int} : oQ P dr sz (.list nl tg rows) (.int k n) dst os K env σ = ((0 ≤ n ∧ n < rows.length) ∧ m4 P dr sz (rows[n.toNat]?) dst os K env σ) := by
 simp only [oQ, af, LK.step, LK.run, LO.ev, m4, and_assoc]
theorem aU {sz l i q m z : Nat} {cl : Option Nat} {k : IntKind} {n : Int} : oQ P dr sz (.own l i q m z cl) (.int k n) dst os K env σ = ((z = sz ∧ 0 ≤ n ∧ n < q) ∧ af P dr os K (put env dst (.ptr l (i + n.toNat) 0 m)) σ) := by
 simp only [oQ, af, LK.step, LK.run, LO.ev, and_assoc]
theorem aw {sz : Nat} {r : List D} : m4 P dr sz (some r) dst os K env σ = (r.length = sz ∧ af P dr os K (put env dst (.elt r 0)) σ) := by
 simp [m4]
theorem aV {sz : Nat} {α : Type} {f : α → List D} {xs : List α} {m : Nat} : m4 P dr sz ((xs.map f)[m]?) dst os K env σ = ∀ x, xs[m]? = some x → (f x).length = sz ∧ af P dr os K (put env dst (.elt (f x) 0)) σ := by
 simp [m4]
def pT (P : Program) (dr : Bool) (sz bytes : Nat) (new : List (List D)) (pu : Bool) (s : D) (dst : Option Nat) (os : List LOp) (K : fy → List Ob → Prop) (env : fy) (σ : List Ob) : Prop :=
 kY sz bytes new pu s σ fun d σ' => af P dr os K (put env dst d) σ'
def Bg (P : Program) (dr : Bool) (sz bytes : Nat) (x : Option (List (List D) × Bool)) (s : D) (dst : Option Nat) (os : List LOp) (K : fy → List Ob → Prop) (env : fy) (σ : List Ob) : Prop :=
 match x with
 | some (new, pu) => pT P dr sz bytes new pu s dst os K env σ
 | none => False
def tv (P : Program) (dr : Bool) (o : Option Ob) (l i k n sz bytes : Nat) (cl : Option Nat) (new : List (List D)) (pu : Bool) (dst : Option Nat) (os : List LOp) (K : fy → List Ob → Prop) (env : fy) (σ : List Ob) : Prop :=
 match o with
 | some o => (o.rows.length = n ∧ (k + new.length) * bytes ≤ 140737488355328 ∧ k + new.length ≤ 9223372036854775807) ∧ i7 sz new pu l i k n cl o σ fun d σ' => af P dr os K (put env dst d) σ'
 | none => False
theorem eW {sz bytes : Nat} {s x : LO} : af P dr (⟨dst, none, .app sz bytes s x⟩ :: os) K env σ = Bg P dr sz bytes (kr σ (x.ev env)) (s.ev env) dst os K env σ := by
 simp only [af, LK.step, LK.run, Bg, pT]
 cases kr σ (x.ev env) <;> rfl
theorem bE {sz bytes : Nat} {new : List (List D)} {pu : Bool} {s : D} : Bg P dr sz bytes (some (new, pu)) s dst os K env σ = pT P dr sz bytes new pu s dst os K env σ := id rfl
def Bh (P : Program) (dr : Bool) (sz bytes : Nat) (zs : List D) (x s : D) (dst : Option Nat) (os : List LOp) (K : fy → List Ob → Prop) (env : fy) (σ : List Ob) : Prop :=
 match x with
 | .int k n => (k = .i64 ∧ zs.length = sz ∧ 0 ≤ n ∧ n * bytes ≤ 140737488355328 ∧ n ≤ 9223372036854775807) ∧ pT P dr sz bytes (List.replicate n.toNat zs) (zs.all D.pt1) s dst os K env σ
 | _ => False
theorem dJ {sz bytes : Nat} {zs : List D} {s x : LO} : af P dr (⟨dst, none, .appz sz bytes zs s x⟩ :: os) K env σ = Bh P dr sz bytes zs (x.ev env) (s.ev env) dst os K env σ := by
 simp only [af, LK.step, LK.run, Bh, pT]
 cases x.ev env <;> rfl
theorem cy {sz bytes : Nat} {zs : List D} {k : IntKind} {n : Int} {s : D} : Bh P dr sz bytes zs (.int k n) s dst os K env σ = ((k = .i64 ∧ zs.length = sz ∧ 0 ≤ n ∧ n * bytes ≤ 140737488355328 ∧ n ≤ 9223372036854775807) ∧ pT P dr sz bytes (List.replicate n.toNat zs) (zs.all D.pt1) s dst os K env σ) := id rfl
theorem cw {sz bytes : Nat} {b : Bool} {new : List (List D)} {pu : Bool} : pT P dr sz bytes new pu (.list (some b) true []) dst os K env σ = (((∀ r ∈ new, r.length = sz) ∧ 0 < sz ∧ new.length * bytes ≤ 140737488355328 ∧ new.length ≤ 9223372036854775807) ∧
  af P dr os K (put env dst (.own σ.length 0 new.length new.length sz none)) (σ ++ [bw b sz pu new])) := by
 simp only [pT, kY, and_assoc, bw]
theorem cx {sz bytes l i k n z : Nat} {cl : Option Nat} {new : List (List D)} {pu : Bool} : pT P dr sz bytes new pu (.own l i k n z cl) dst os K env σ = (((∀ r ∈ new, r.length = sz) ∧ 0 < sz ∧ z = sz) ∧ tv P dr (σ[l]?) l i k n sz bytes cl new pu dst os K env σ) := by
 simp only [pT, kY, and_assoc, tv]
 cases σ[l]? <;> simp [and_assoc]
theorem cv {b : Bool} {sz' : Nat} {pu0 : Bool} {rows : List (List D)} {l n sz bytes : Nat} {new : List (List D)} {pu : Bool} : tv P dr (some (bw b sz' pu0 rows)) l 0 n n sz bytes none new pu dst os K env σ = ((rows.length = n ∧ (n + new.length) * bytes ≤ 140737488355328 ∧ n + new.length ≤ 9223372036854775807) ∧
  af P dr os K (put env dst (.own l 0 (n + new.length) (n + new.length) sz none)) (σ.set l (bw b sz' (pu0 && pu) (rows ++ new)))) := by
 have e : ({ bw b sz' pu0 rows with real := (bw b sz' pu0 rows).real || !new.isEmpty, nl := (bw b sz' pu0 rows).nl && new.isEmpty, pure := (bw b sz' pu0 rows).pure && pu, rows := (bw b sz' pu0 rows).rows ++ new, spare := none } : Ob) = bw b sz' (pu0 && pu) (rows ++ new) := by
  simp only [bw]
  cases rows <;> cases new <;> simp
 simp only [tv, i7, and_self, if_true, e]
 simp only [bw, true_and]
theorem yx {o : Ob} {l i k n sz bytes : Nat} {cl : Option Nat} {new : List (List D)} {pu : Bool} (hne : ¬ (i = 0 ∧ k = n ∧ cl = none)) (h1 : o.rows.length = n ∧ (k + new.length) * bytes ≤ 140737488355328 ∧ k + new.length ≤ 9223372036854775807) (h2 : o.fz = false ∧ i + k + new.length ≤ n ∧ ∀ e, cl = some e → i + k + new.length ≤ e)
  (h : af P dr os K (put env dst (.own l i (k + new.length) n sz cl)) (σ.set l { o with pure := o.pure && pu, rows := o.rows.take (i + k) ++ new ++ o.rows.drop (i + k + new.length) })) : tv P dr (some o) l i k n sz bytes cl new pu dst os K env σ := by
 simp only [tv, i7, if_neg hne]
 exact ⟨h1, .inl ⟨h2.1, h2.2.1, h2.2.2, h⟩⟩
theorem vl {o : Ob} {l i k n sz bytes c : Nat} {new : List (List D)} {pu : Bool} (hne : ¬ (i = 0 ∧ k = n)) (h1 : o.rows.length = n ∧ (k + new.length) * bytes ≤ 140737488355328 ∧ k + new.length ≤ 9223372036854775807) (h2 : 0 < new.length ∧ o.real = true ∧ o.spare = some c ∧ n + c < i + k + new.length ∧ (o.pure || (fT i k n o.rows).all fun r => r.all D.one) = true)
  (h : af P dr os K (put env dst (.own σ.length 0 (k + new.length) (k + new.length) sz none)) (σ ++ [⟨true, false, o.pure && pu, false, sz, fT i k n o.rows ++ new, none⟩])) : tv P dr (some o) l i k n sz bytes none new pu dst os K env σ := by
 have : ¬ (i = 0 ∧ k = n ∧ (none : Option Nat) = none) := fun h => hne ⟨h.1, h.2.1⟩
 refine ⟨h1, ?_⟩
 unfold i7
 rw [if_neg this]
 exact .inr (.inr (.inr ⟨h2.1, h2.2.1, .inr ⟨rfl, c, h2.2.2.1, h2.2.2.2.1⟩, h2.2.2.2.2, h⟩))
def Bi (P : Program) (x : D) (dst : Option Nat) (os : List LOp) (K : fy → List Ob → Prop) (env : fy) (σ : List Ob) : Prop := af P false (⟨dst, none, .cap (.c x)⟩ :: os) K env σ
def im (P : Program) (o : Option Ob) (l i k n : Nat) (dst : Option Nat) (os : List LOp) (K : fy → List Ob → Prop) (env : fy) (σ : List Ob) : Prop := match o with
 | some o => o.rows.length = n ∧ if o.real = true then (match o.spare with
   | some c => af P false os K (put env dst (.int .i64 (n + c - i : Nat))) σ
   | none => o.fz = false ∧ ∀ c : Nat, n + c ≤ 9223372036854775807 → af P false os K (put env dst (.int .i64 (n + c - i : Nat))) (σ.set l { o with spare := some c })) else af P false os K (put env dst (.int .i64 0)) σ
 | none => False
def Bp (P : Program) (x y : D) (dst : Option Nat) (os : List LOp) (K : fy → List Ob → Prop) (env : fy) (σ : List Ob) : Prop := af P false (⟨dst, none, .ovl (.c x) (.c y)⟩ :: os) K env σ
theorem fu {x y : LO} : af P false (⟨dst, none, .ovl x y⟩ :: os) K env σ = Bp P (x.ev env) (y.ev env) dst os K env σ := id rfl
def Bq (P : Program) (o : Option Ob) (rows : List (List D)) (n z : Nat) (dst : Option Nat) (os : List LOp) (K : fy → List Ob → Prop) (env : fy) (σ : List Ob) : Prop := match o with
 | some o => ((0 < z ∧ ∀ r ∈ rows, r ≠ []) ∧ o.rows.length = n ∧ o.real = true ∧ o.fz = false) ∧ af P false os K (put env dst (.bool false)) σ
 | none => False
theorem bO {o : Ob} {rows : List (List D)} {n z : Nat} : Bq P (some o) rows n z dst os K env σ = (((0 < z ∧ ∀ r ∈ rows, r ≠ []) ∧ o.rows.length = n ∧ o.real = true ∧ o.fz = false) ∧ af P false os K (put env dst (.bool false)) σ) := id rfl
theorem cB {nl : Option Bool} {tg : Bool} {rows : List (List D)} {l i k n z : Nat} {cl : Option Nat} : Bp P (.list nl tg rows) (.own l i k n z cl) dst os K env σ = Bq P (σ[l]?) rows n z dst os K env σ := by
 cases ho : σ[l]? <;> simp [Bp, Bq, af, LK.step, LK.run, LO.ev, ho, and_assoc]
theorem fc {x : LO} : af P false (⟨dst, none, .cap x⟩ :: os) K env σ = Bi P (x.ev env) dst os K env σ := id rfl
theorem cz {l i k n z : Nat} : Bi P (.own l i k n z none) dst os K env σ = im P (σ[l]?) l i k n dst os K env σ := by
 simp only [Bi, af, LK.step, LK.run, LO.ev, im, true_and]
 cases σ[l]? with
 | none => rfl
 | some o => cases o.spare <;> rfl
def uH (P : Program) (dr : Bool) (sz : Nat) (x : D) (s : Option (List (List D) × Bool)) (dst : Option Nat) (os : List LOp) (K : fy → List Ob → Prop) (env : fy) (σ : List Ob) : Prop := match s with
 | some (new, pu) => (∀ r ∈ new, r.length = sz) ∧ match x with
   | .own l i k n z cl => z = sz ∧ match σ[l]? with
    | some o => o.rows.length = n ∧ o.fz = false ∧ (pu || (new.take k).all fun r => r.all D.one) = true ∧ af P dr os K (put env dst (.int .i64 (min new.length k : Nat))) (σ.set l { o with pure := o.pure && pu, rows := o.rows.take i ++ new.take k ++ o.rows.drop (i + min new.length k) })
    | none => False
   | .list _ _ [] => af P dr os K (put env dst (.int .i64 0)) σ
   | _ => False
 | none => False
theorem dL {sz : Nat} {x y : LO} : af P dr (⟨dst, none, .copy sz x y⟩ :: os) K env σ = uH P dr sz (x.ev env) (lZ σ (y.ev env)) dst os K env σ := by
 simp only [af, LK.step, LK.run, uH]
 cases lZ σ (y.ev env) <;> rfl
def uJ (P : Program) (dr : Bool) (o : Option Ob) (l i k n : Nat) (new : List (List D)) (pu : Bool) (dst : Option Nat) (os : List LOp) (K : fy → List Ob → Prop) (env : fy) (σ : List Ob) : Prop := match o with
 | some o => o.rows.length = n ∧ o.fz = false ∧ (pu || (new.take k).all fun r => r.all D.one) = true ∧ af P dr os K (put env dst (.int .i64 (min new.length k : Nat))) (σ.set l { o with pure := o.pure && pu, rows := o.rows.take i ++ new.take k ++ o.rows.drop (i + min new.length k) })
 | none => False
theorem bF {sz l i k n z : Nat} {cl : Option Nat} {new : List (List D)} {pu : Bool} : uH P dr sz (.own l i k n z cl) (some (new, pu)) dst os K env σ = (((∀ r ∈ new, r.length = sz) ∧ z = sz) ∧ uJ P dr (σ[l]?) l i k n new pu dst os K env σ) := by
 simp only [uH, uJ, and_assoc]
theorem aT {o : Ob} {l i k n : Nat} {new : List (List D)} {pu : Bool} : uJ P dr (some o) l i k n new pu dst os K env σ = ((o.rows.length = n ∧ o.fz = false ∧ (pu || (new.take k).all fun r => r.all D.one) = true) ∧ af P dr os K (put env dst (.int .i64 (min new.length k : Nat))) (σ.set l { o with pure := o.pure && pu, rows := o.rows.take i ++ new.take k ++ o.rows.drop (i + min new.length k) })) := by
 simp only [uJ, and_assoc]
def oN (P : Program) (dr : Bool) (zs : List D) (x : D) (dst : Option Nat) (os : List LOp) (K : fy → List Ob → Prop) (env : fy) (σ : List Ob) : Prop := af P dr (⟨dst, none, .clear zs (.c x)⟩ :: os) K env σ
def tx (P : Program) (dr : Bool) (o : Option Ob) (l i k n : Nat) (zs : List D) (dst : Option Nat) (os : List LOp) (K : fy → List Ob → Prop) (env : fy) (σ : List Ob) : Prop := match o with
 | some o => (o.rows.length = n ∧ o.fz = false) ∧ af P dr os K (put env dst (.tup [])) (σ.set l { o with pure := o.pure && zs.all D.pt1, rows := o.rows.take i ++ List.replicate k zs ++ o.rows.drop (i + k) })
 | none => False
theorem cM {zs : List D} {x : LO} : af P dr (⟨dst, none, .clear zs x⟩ :: os) K env σ = oN P dr zs (x.ev env) dst os K env σ := id rfl
theorem aS {zs : List D} {l i k n z : Nat} {cl : Option Nat} : oN P dr zs (.own l i k n z cl) dst os K env σ = (z = zs.length ∧ tx P dr (σ[l]?) l i k n zs dst os K env σ) := by
 simp only [oN, af, LK.step, LK.run, LO.ev, tx]
 cases σ[l]? <;> simp [and_assoc]
theorem aE {o : Ob} {l i k n : Nat} {zs : List D} : tx P dr (some o) l i k n zs dst os K env σ = ((o.rows.length = n ∧ o.fz = false) ∧ af P dr os K (put env dst (.tup [])) (σ.set l { o with pure := o.pure && zs.all D.pt1, rows := o.rows.take i ++ List.replicate k zs ++ o.rows.drop (i + k) })) := id rfl
theorem aR {zs : List D} {nl : Option Bool} {tg : Bool} : oN P dr zs (.list nl tg []) dst os K env σ = af P dr os K (put env dst (.tup [])) σ := by
 simp only [oN, af, LK.step, LK.run, LO.ev]
def Bo (P : Program) (dr : Bool) (zs : List D) (bytes : Nat) (n c : D) (dst : Option Nat) (os : List LOp) (K : fy → List Ob → Prop) (env : fy) (σ : List Ob) : Prop := af P dr (⟨dst, none, .mks zs bytes (.c n) (.c c)⟩ :: os) K env σ
theorem fm {zs : List D} {bytes : Nat} {n c : LO} : af P dr (⟨dst, none, .mks zs bytes n c⟩ :: os) K env σ = Bo P dr zs bytes (n.ev env) (c.ev env) dst os K env σ := id rfl
theorem cA {zs : List D} {bytes : Nat} {k1 k2 : IntKind} {a b : Int} : Bo P dr zs bytes (.int k1 a) (.int k2 b) dst os K env σ = ((zs ≠ [] ∧ 0 ≤ a ∧ a ≤ b ∧ b * bytes ≤ 140737488355328 ∧ b ≤ 9223372036854775807) ∧
  af P dr os K (put env dst (.own σ.length 0 a.toNat a.toNat zs.length none)) (σ ++ [⟨true, false, zs.all D.pt1, false, zs.length, List.replicate a.toNat zs, some (b.toNat - a.toNat)⟩])) := by
 simp only [Bo, af, LK.step, LK.run, LO.ev, and_assoc]
def xx (o : Option Ob) (i k n : Nat) : Option (List (List D) × Bool) := match o with
 | some o => if o.rows.length = n ∧ (o.pure || (fT i k n o.rows).all fun r => r.all D.one) = true then some (fT i k n o.rows, o.pure) else none
 | none => none
def tW (o : Option Ob) (i k n : Nat) : Option (List (List D) × Bool) := match o with
 | some o => if o.rows.length = n then some (fT i k n o.rows, o.pure) else none
 | none => none
theorem aJ {o : Ob} {i k n : Nat} : tW (some o) i k n = if o.rows.length = n then some (fT i k n o.rows, o.pure) else none := id rfl
theorem bf {σ : List Ob} {nl : Option Bool} {tg : Bool} {rows : List (List D)} : lZ σ (.list nl tg rows) = some (rows, true) := id rfl
theorem bX {σ : List Ob} {s : ByteArray} : lZ σ (.str s) = some (s.data.toList.map (fun b => [.int .u8 b.toNat]), true) := id rfl
theorem bW {σ : List Ob} {l i k n z : Nat} {cl : Option Nat} : lZ σ (.own l i k n z cl) = tW (σ[l]?) i k n := by
 simp only [lZ, tW]; cases σ[l]? <;> rfl
theorem bg {σ : List Ob} {nl : Option Bool} {tg : Bool} {rows : List (List D)} : kr σ (.list nl tg rows) = some (rows, true) := id rfl
theorem bZ {σ : List Ob} {s : ByteArray} : kr σ (.str s) = some (s.data.toList.map (fun b => [.int .u8 b.toNat]), true) := id rfl
theorem bY {σ : List Ob} {l i k n z : Nat} {cl : Option Nat} : kr σ (.own l i k n z cl) = xx (σ[l]?) i k n := by
 simp only [kr, xx]; cases σ[l]? <;> rfl
theorem bh {o : Ob} {i k n : Nat} : xx (some o) i k n = if o.rows.length = n ∧ (o.pure || (fT i k n o.rows).all fun r => r.all D.one) = true then some (fT i k n o.rows, o.pure) else none := id rfl
theorem aM {n : Nat} {rows : List (List D)} : fT 0 n n rows = rows := by simp [fT]
def pP (o : Option Ob) (i k n : Nat) : Option (List (List D)) := match o with
 | some o => if o.rows.length = n ∧ (o.pure || (fT i k n o.rows).all fun r => r.all D.pt1) = true then some (fT i k n o.rows) else none
 | none => none
theorem aq {σ : List Ob} {nl : Option Bool} {tg : Bool} {rows : List (List D)} : jk σ (.list nl tg rows) = some rows := id rfl
theorem ao {σ : List Ob} {l i k n z : Nat} {cl : Option Nat} : jk σ (.own l i k n z cl) = pP (σ[l]?) i k n := by
 simp only [jk, pP]; cases σ[l]? <;> rfl
theorem am {o : Ob} {i k n : Nat} : pP (some o) i k n = if o.rows.length = n ∧ (o.pure || (fT i k n o.rows).all fun r => r.all D.pt1) = true then some (fT i k n o.rows) else none := id rfl
theorem fv : jO P [] K env σ = K env σ := id rfl
theorem dR {o : LOp} {ts : List Nat} {os : List (LOp × List Nat)} : jO P ((o, ts) :: os) K env σ = af P true [o] (fun env1 σ1 => jO P os (o8 ts σ σ1 K) env1 σ1) env σ := id rfl
theorem bU {σ1 : List Ob} : o8 [] σ σ1 K = K := id rfl
def mK (σ σ1 : List Ob) : List Nat → Prop
 | [] => True
 | l :: ls => σ[l]? = σ1[l]? ∧ mK σ σ1 ls
def nU (σ σ1 : List Ob) (env : fy) : List Nat → Prop
 | [] => True
 | t :: ts => mK σ σ1 (lk env t).names ∧ nU σ σ1 env ts
theorem bV {σ1 : List Ob} : mK σ σ1 [] = True := id rfl
theorem be {σ1 : List Ob} {l : Nat} {ls : List Nat} : mK σ σ1 (l :: ls) = (σ[l]? = σ1[l]? ∧ mK σ σ1 ls) := id rfl
theorem bT {σ1 : List Ob} : nU σ σ1 env [] = True := id rfl
theorem ba {σ1 : List Ob} {t : Nat} {ts : List Nat} : nU σ σ1 env (t :: ts) = (mK σ σ1 (lk env t).names ∧ nU σ σ1 env ts) := id rfl
theorem qp {σ1 : List Ob} : ∀ (ls : List Nat), mK σ σ1 ls ↔ ∀ l ∈ ls, σ[l]? = σ1[l]?
 | [] => by simp [mK]
 | l :: ls => by simp [mK, qp ls]
theorem qo {σ1 : List Ob} : ∀ (ts : List Nat), nU σ σ1 env ts ↔ ∀ t ∈ ts, ii σ σ1 (lk env t)
 | [] => by simp [nU]
 | t :: ts => by simp [nU, qo ts, qp, ii]
theorem bc {t : Nat} {ts : List Nat} {σ1 σ2 : List Ob} : o8 (t :: ts) σ σ1 K env σ2 = (nU σ σ1 env (t :: ts) ∧ K env σ2) := by
 rw [show o8 (t :: ts) σ σ1 K env σ2 = ((∀ x ∈ t :: ts, ii σ σ1 (lk env x)) ∧ K env σ2) from rfl, ← qo]
def i5 (P : Program) (dr : Bool) (d : D) (want : Bool) (dst : Option Nat) (k : LK) (os : List LOp) (K : fy → List Ob → Prop) (env : fy) (σ : List Ob) : Prop :=
 ∃ g, gv d g ∧ (g = some want → af P dr (⟨dst, none, k⟩ :: os) K env σ) ∧ (g ≠ some want → af P dr os K (put env dst (.tup [])) σ)
theorem cP {t : Nat} {want : Bool} {k : LK} : af P dr (⟨dst, some (t, want), k⟩ :: os) K env σ = i5 P dr (lk env t) want dst k os K env σ := id rfl
theorem oC {b : Bool} {g : Option Bool} : gv (.bool b) g = (g = some b) := by
 cases g <;> simp [gv, eq_comm]
theorem Cu {g : Option Bool} : gv (.tup []) g = (g = none) := by
 cases g <;> simp [gv]
theorem bK {k : LK} : i5 P dr (.bool true) true dst k os K env σ = af P dr (⟨dst, none, k⟩ :: os) K env σ := by simp [i5, oC]
theorem bG {k : LK} : i5 P dr (.bool false) false dst k os K env σ = af P dr (⟨dst, none, k⟩ :: os) K env σ := by simp [i5, oC]
theorem bJ {k : LK} : i5 P dr (.bool true) false dst k os K env σ = af P dr os K (put env dst (.tup [])) σ := by simp [i5, oC]
theorem bH {k : LK} : i5 P dr (.bool false) true dst k os K env σ = af P dr os K (put env dst (.tup [])) σ := by simp [i5, oC]
theorem bI {k : LK} {want : Bool} : i5 P dr (.tup []) want dst k os K env σ = af P dr os K (put env dst (.tup [])) σ := by simp [i5, Cu]
theorem ax {b want : Bool} {k : LK} (h1 : b = true → i5 P dr (.bool true) want dst k os K env σ) (h2 : b = false → i5 P dr (.bool false) want dst k os K env σ) : i5 P dr (.bool b) want dst k os K env σ := by
 cases b
 ·exact h2 rfl
 ·exact h1 rfl
theorem zC {f : LO} {args : List LO} {fid : FuncId} {caps : List D} {ds' : List D} {r : D} (hb : fid < bB) (h : aA P fid ds' r) (hf : f.ev env = .fn fid caps) (hv : cV (fJ σ) (args.map (LO.ev env) ++ caps) = some ds') (hs : ((args.map (LO.ev env) ++ caps).all D.pt || r.sc) = true)
  (hk : af P dr os K (put env dst r) σ) : af P dr (⟨dst, none, .call f args⟩ :: os) K env σ := by
 simp only [af, LK.step, nL, hf, oZ hb, oY hb]
 cases dr with
 | true => exact ⟨r, ds', hv, h, hs, hk⟩
 | false => exact ⟨_, i8 h hv hs, fun d σ' ⟨h1, h2⟩ => by rw [h1, h2]; exact hk⟩
theorem xZ {f : LO} {args : List LO} {fid : FuncId} {caps : List D} {ds' : List D} {r : D} (hb : fid < bB) (h : aA P fid ds' r) (hf : f.ev env = .fn fid caps) (hv : cV (fJ σ) (args.map (LO.ev env) ++ caps) = some ds') (hs : ((args.map (LO.ev env) ++ caps).all D.pt || r.sc) = true)
  (hk : af P dr os K (put env dst r) σ) : af P dr (⟨dst, none, .callX f args⟩ :: os) K env σ := by
 simp only [af, LK.step, mf, hf, oZ hb, oY hb]
 cases dr with
 | true => exact ⟨r, σ, i8 h hv hs, hk⟩
 | false => exact ⟨_, i8 h hv hs, fun d σ' ⟨h1, h2⟩ => by rw [h1, h2]; exact hk⟩
theorem dj {n : Nat} : lk [] n = .undef := id rfl
theorem cH {k : Nat} {d : D} {e : fy} : put e (some k) d = (k, d) :: e := id rfl
theorem cG {d : D} {e : fy} : put e none d = e := id rfl
theorem iF {n : Nat} {env : fy} : LO.ev env (.t n) = lk env n := id rfl
theorem iE {d : D} {env : fy} : LO.ev env (.c d) = d := id rfl
def nM (P : Program) (N : Nat) (base : List Ob) (d : D) (x y : LC) (k : List LI) (post : fy → List Ob → Prop) (env : fy) (σ : List Ob) : Prop :=
 ∃ v, d = .bool v ∧ (v = true → jf P N base (.code x :: k) post env σ) ∧ (v = false → jf P N base (.code y :: k) post env σ)
theorem cj {N : Nat} {base : List Ob} {c : LO} {x y : LC} {k : List LI} {post : fy → List Ob → Prop} (h : nM P N base (c.ev env) x y k post env σ) : jf P N base (.code (.cond c x y) :: k) post env σ := by
 obtain ⟨v, h1, h2, h3⟩ := h
 exact wL h1 h2 h3
theorem dD {N : Nat} {base : List Ob} {x y : LC} {k : List LI} {post : fy → List Ob → Prop} : nM P N base (.bool true) x y k post env σ = jf P N base (.code x :: k) post env σ := by simp [nM]
theorem dC {N : Nat} {base : List Ob} {x y : LC} {k : List LI} {post : fy → List Ob → Prop} : nM P N base (.bool false) x y k post env σ = jf P N base (.code y :: k) post env σ := by simp [nM]
theorem aN {N : Nat} {base : List Ob} {b : Bool} {x y : LC} {k : List LI} {post : fy → List Ob → Prop} (h1 : b = true → nM P N base (.bool true) x y k post env σ) (h2 : b = false → nM P N base (.bool false) x y k post env σ) :
  nM P N base (.bool b) x y k post env σ := by
 cases b
 ·exact h2 rfl
 ·exact h1 rfl
end
end Go.Vi
