import Derived.Test.YtggchhmgeafoaaaVi17
set_option linter.unusedVariables false
set_option linter.unusedSimpArgs false
set_option linter.unnecessarySimpa false
namespace Go.Vi
open Go Go.RowKit
def loadD (r : List D) (i : Nat) : Option Nat → Option (Prop × D)
 | none => match r[i]? with
  | some d => some (True, d)
  | none => none
 | some n => some (i + n ≤ r.length, .agg ((r.drop i).take n))
def bndD : Option D → Nat → Option Int
 | none, z => some z
 | some (.int _ n), _ => some n
 | some _, _ => none
def acc (b : Bool) (sz : Nat) (pu : Bool) (rows : List (List D)) : Ob := ⟨!rows.isEmpty, b && rows.isEmpty, pu, false, sz, rows, none⟩
theorem acc_real {b : Bool} {sz : Nat} {pu : Bool} {rows : List (List D)} : (acc b sz pu rows).real = !rows.isEmpty := id rfl
theorem acc_nl {b : Bool} {sz : Nat} {pu : Bool} {rows : List (List D)} : (acc b sz pu rows).nl = (b && rows.isEmpty) := id rfl
theorem acc_pure {b : Bool} {sz : Nat} {pu : Bool} {rows : List (List D)} : (acc b sz pu rows).pure = pu := id rfl
theorem acc_fz {b : Bool} {sz : Nat} {pu : Bool} {rows : List (List D)} : (acc b sz pu rows).fz = false := id rfl
theorem acc_sz {b : Bool} {sz : Nat} {pu : Bool} {rows : List (List D)} : (acc b sz pu rows).sz = sz := id rfl
theorem acc_rows {b : Bool} {sz : Nat} {pu : Bool} {rows : List (List D)} : (acc b sz pu rows).rows = rows := id rfl
theorem acc_spare {b : Bool} {sz : Nat} {pu : Bool} {rows : List (List D)} : (acc b sz pu rows).spare = none := id rfl
def sliceD (st : Bool) (sz : Nat) : D → Option Int → Option Int → Option (Prop × D)
 | .str s, some l, some h => some (st = true ∧ 0 ≤ l ∧ l ≤ h ∧ h ≤ s.size, .str (s.extract l.toNat h.toNat))
 | .list nl _ rows, some l, some h => some (st = false ∧ 0 < sz ∧ (∀ r ∈ rows, r.length = sz) ∧ 0 ≤ l ∧ l ≤ h ∧ h ≤ rows.length, .list nl false ((rows.take h.toNat).drop l.toNat))
 | _, _, _ => none
def pickD : D → D → D → Option (Prop × D)
 | .bool v, a, b => some (True, bif v then a else b)
 | _, _, _ => none
def chkD : D → Option (Prop × D)
 | .ptr l j i n => some (True, .ptr l j i n)
 | .elt r i => some (True, .elt r i)
 | .fn f cs => some (True, .fn f cs)
 | _ => none
def convD (k : IntKind) : D → Option (Prop × D)
 | .int _ n => some (True, .int k (k.wrap n))
 | _ => none
def sameD : D → Option (Prop × D)
 | .str s => some (True, .str s)
 | _ => none
def strD : Option (List (List D)) → Option (Prop × D)
 | some rows => match bytesOf rows with
  | some l => some (True, .str ⟨l.toArray⟩)
  | none => none
 | none => none
def faddrD (off : Nat) : D → Option (Prop × D)
 | .ptr l j i n => some (True, .ptr l j (i + off) n)
 | .elt r i => some (True, .elt r (i + off))
 | _ => none
def fldD (off : Nat) (ag : Option Nat) : D → Option (Prop × D)
 | .agg cs => loadD cs off ag
 | _ => none
def idxD : D → D → Option (Prop × D)
 | .str s, .int _ n => some (0 ≤ n ∧ n < s.size, .int .u8 (bt s n))
 | _, _ => none
def extD (i : Nat) : D → Option (Prop × D)
 | .tup ds => match ds[i]? with
  | some d => some (True, d)
  | none => none
 | _ => none
def lenD (st : Bool) : D → Option (Prop × D)
 | .str s => some (st = true, .int .i64 s.size)
 | .list _ _ rows => some (st = false, .int .i64 rows.length)
 | .own _ _ k _ _ _ => some (st = false, .int .i64 k)
 | _ => none
def mxD : D → D → Option (Prop × D)
 | .int k a, .int _ b => some (True, .int k (if b > a then b else a))
 | _, _ => none
def mnD : D → D → Option (Prop × D)
 | .int k a, .int _ b => some (True, .int k (if b < a then b else a))
 | _, _ => none
def okD : Option D → Option (Prop × D)
 | some d => some (True, d)
 | none => none
def aggD : Option (List D) → Option (Prop × D)
 | some cs => some (True, .agg cs)
 | none => none
def boolD : Option Bool → Option (Prop × D)
 | some b => some (True, .bool b)
 | none => none
def eqN (neg : Bool) : Option Bool → Option Bool
 | some b => some (bif neg then !b else b)
 | none => none
def contP (P : Program) (dr : Bool) (r : Option (Prop × D)) (dst : Option Nat) (os : List LOp) (K : Env → List Ob → Prop) (env : Env) (σ : List Ob) : Prop :=
 match r with
 | some (p, d) => p ∧ runOps P dr os K (put env dst d) σ
 | none => False
section
variable {P : Program} {dr : Bool} {dst : Option Nat} {os : List LOp} {K : Env → List Ob → Prop} {env : Env} {σ : List Ob}
theorem contP_some {p : Prop} {d : D} : contP P dr (some (p, d)) dst os K env σ = (p ∧ runOps P dr os K (put env dst d) σ) := id rfl
theorem ro_nil : runOps P dr [] K env σ = K env σ := id rfl
theorem ro_mov {x : LO} : runOps P dr (⟨dst, none, .mov x⟩ :: os) K env σ = runOps P dr os K (put env dst (x.ev env)) σ := id rfl
theorem ro_mkfn {f : FuncId} {caps : List LO} : runOps P dr (⟨dst, none, .mkfn f caps⟩ :: os) K env σ = runOps P dr os K (put env dst (.fn f (caps.map (LO.ev env)))) σ := id rfl
theorem loadRow_D {r : List D} {i : Nat} {ag : Option Nat} {K : D → Prop} : loadRow r i ag K = match loadD r i ag with
  | some (p, d) => p ∧ K d
  | none => False := by
 cases ag with
 | none => simp only [loadRow, loadD]; cases r[i]? <;> simp
 | some n => simp [loadRow, loadD]
theorem bnd_D {x : Option D} {z : Nat} {K : Int → Prop} : bnd x z K = match bndD x z with
  | some n => K n
  | none => False := by
 unfold bnd bndD
 cases x with
 | none => rfl
 | some d => cases d <;> rfl
theorem ro_pick {c a b : LO} : runOps P dr (⟨dst, none, .pick c a b⟩ :: os) K env σ = contP P dr (pickD (c.ev env) (a.ev env) (b.ev env)) dst os K env σ := by
 simp only [runOps, LK.step, LK.run, contP]
 cases c.ev env <;> simp [pickD]
theorem ro_build {zs : List D} {ps : List (Nat × Nat × LO)} : runOps P dr (⟨dst, none, .build zs ps⟩ :: os) K env σ = contP P dr (aggD (fillD (LO.ev env) zs ps)) dst os K env σ := by
 simp only [runOps, LK.step, LK.run, contP]
 cases fillD (LO.ev env) zs ps <;> simp [aggD]
def SlitK (P : Program) (dr : Bool) (sz : Nat) (ds : List D) (pt : Bool) (dst : Option Nat) (os : List LOp) (K : Env → List Ob → Prop) (env : Env) (σ : List Ob) : Prop :=
 if pt = true then runOps P dr os K (put env dst (.list (some false) true (ds.map fun x => x.cells.map D.norm1))) σ
 else (dr = false ∨ slitM sz ds.length = true) ∧ runOps P dr os K (put env dst (.own σ.length 0 ds.length ds.length sz none)) (σ ++ [⟨true, false, false, false, sz, ds.map D.cells, some 0⟩])
theorem SlitK_t {sz : Nat} {ds : List D} : SlitK P dr sz ds true dst os K env σ = runOps P dr os K (put env dst (.list (some false) true (ds.map fun x => x.cells.map D.norm1))) σ := by simp [SlitK]
theorem SlitK_f {sz : Nat} {ds : List D} : SlitK P false sz ds false dst os K env σ = runOps P false os K (put env dst (.own σ.length 0 ds.length ds.length sz none)) (σ ++ [⟨true, false, false, false, sz, ds.map D.cells, some 0⟩]) := by simp [SlitK]
theorem SlitK_x2 {x y : D} : SlitK P true 1 [x, y] false dst os K env σ = runOps P true os K (put env dst (.own σ.length 0 2 2 1 none)) (σ ++ [⟨true, false, false, false, 1, [x.cells, y.cells], some 0⟩]) := by simp [SlitK, slitM]
theorem ro_slit {sz : Nat} {xs : List LO} : runOps P dr (⟨dst, none, .slit sz xs⟩ :: os) K env σ = ((0 < sz ∧ ∀ x ∈ xs.map (LO.ev env), x.cells.length = sz ∧ x.ok = true) ∧
  SlitK P dr sz (xs.map (LO.ev env)) ((xs.map (LO.ev env)).all D.pt) dst os K env σ) := by
 simp only [runOps, LK.step, LK.run, SlitK]
 simp [and_assoc, Function.comp_def]
theorem ro_chk {x : LO} : runOps P dr (⟨dst, none, .chk x⟩ :: os) K env σ = contP P dr (chkD (x.ev env)) dst os K env σ := by
 simp only [runOps, LK.step, LK.run, contP]
 cases x.ev env <;> simp [chkD]
theorem ro_bin {op : BinOp} {x y : LO} : runOps P dr (⟨dst, none, .bin op x y⟩ :: os) K env σ = contP P dr (binD op (x.ev env) (y.ev env)) dst os K env σ := by
 simp only [runOps, LK.step, LK.run, contP]
 cases binD op (x.ev env) (y.ev env) <;> rfl
theorem ro_eq {t : ET} {neg : Bool} {x y : LO} : runOps P dr (⟨dst, none, .eq t neg x y⟩ :: os) K env σ = contP P dr (boolD (eqN neg (eqO σ t (x.ev env) (y.ev env)))) dst os K env σ := by
 simp only [runOps, LK.step, LK.run, contP]
 cases eqO σ t (x.ev env) (y.ev env) <;> simp [boolD, eqN]
theorem ro_un {op : UnOp} {x : LO} : runOps P dr (⟨dst, none, .un op x⟩ :: os) K env σ = contP P dr (okD (unD op (x.ev env))) dst os K env σ := by
 simp only [runOps, LK.step, LK.run, contP]
 cases unD op (x.ev env) <;> simp [okD]
theorem ro_conv {k : IntKind} {x : LO} : runOps P dr (⟨dst, none, .conv k x⟩ :: os) K env σ = contP P dr (convD k (x.ev env)) dst os K env σ := by
 simp only [runOps, LK.step, LK.run, contP]
 cases x.ev env <;> simp [convD]
theorem ro_same {x : LO} : runOps P dr (⟨dst, none, .same x⟩ :: os) K env σ = contP P dr (sameD (x.ev env)) dst os K env σ := by
 simp only [runOps, LK.step, LK.run, contP]
 cases x.ev env <;> simp [sameD]
theorem ro_b2s {x : LO} : runOps P dr (⟨dst, none, .b2s x⟩ :: os) K env σ = contP P dr (strD (viewS σ (x.ev env))) dst os K env σ := by
 simp only [runOps, LK.step, LK.run, contP]
 cases viewS σ (x.ev env) <;> simp [strD]
 rename_i rows
 cases bytesOf rows <;> simp
theorem ro_faddr {off : Nat} {x : LO} : runOps P dr (⟨dst, none, .faddr off x⟩ :: os) K env σ = contP P dr (faddrD off (x.ev env)) dst os K env σ := by
 simp only [runOps, LK.step, LK.run, contP]
 cases x.ev env <;> simp [faddrD]
theorem ro_fld {off : Nat} {ag : Option Nat} {x : LO} : runOps P dr (⟨dst, none, .fld off ag x⟩ :: os) K env σ = contP P dr (fldD off ag (x.ev env)) dst os K env σ := by
 simp only [runOps, LK.step, LK.run, contP]
 cases x.ev env <;> simp [fldD, loadRow_D]
theorem ro_idx {x i : LO} : runOps P dr (⟨dst, none, .idx x i⟩ :: os) K env σ = contP P dr (idxD (x.ev env) (i.ev env)) dst os K env σ := by
 simp only [runOps, LK.step, LK.run, contP]
 cases x.ev env <;> cases i.ev env <;> simp [idxD, and_assoc]
theorem ro_ext {i : Nat} {x : LO} : runOps P dr (⟨dst, none, .ext i x⟩ :: os) K env σ = contP P dr (extD i (x.ev env)) dst os K env σ := by
 simp only [runOps, LK.step, LK.run, contP]
 cases x.ev env <;> simp [extD]
 rename_i ds
 cases ds[i]? <;> simp
theorem ro_len {st : Bool} {x : LO} : runOps P dr (⟨dst, none, .len st x⟩ :: os) K env σ = contP P dr (lenD st (x.ev env)) dst os K env σ := by
 simp only [runOps, LK.step, LK.run, contP]
 cases x.ev env <;> simp [lenD]
theorem ro_mx {x y : LO} : runOps P dr (⟨dst, none, .mx x y⟩ :: os) K env σ = contP P dr (mxD (x.ev env) (y.ev env)) dst os K env σ := by
 simp only [runOps, LK.step, LK.run, contP]
 cases x.ev env <;> cases y.ev env <;> simp [mxD]
theorem ro_mn {x y : LO} : runOps P dr (⟨dst, none, .mn x y⟩ :: os) K env σ = contP P dr (mnD (x.ev env) (y.ev env)) dst os K env σ := by
 simp only [runOps, LK.step, LK.run, contP]
 cases x.ev env <;> cases y.ev env <;> simp [mnD]
def SliceK (P : Program) (dr : Bool) (st : Bool) (sz : Nat) (x : D) (lo hi : Option D) (dst : Option Nat) (os : List LOp) (K : Env → List Ob → Prop) (env : Env) (σ : List Ob) : Prop :=
 LK.run dr (.slice st sz (.c x) (lo.map .c) (hi.map .c)) (LO.ev env) σ fun d σ' => runOps P dr os K (put env dst d) σ'
theorem ro_slice {st : Bool} {sz : Nat} {x : LO} {lo hi : Option LO} : runOps P dr (⟨dst, none, .slice st sz x lo hi⟩ :: os) K env σ = SliceK P dr st sz (x.ev env) (lo.map (LO.ev env)) (hi.map (LO.ev env)) dst os K env σ := by
 have e1 : ∀ x : Option LO, (Option.map (LO.ev env) ((x.map (LO.ev env)).map LO.c)) = x.map (LO.ev env) := fun x => by cases x <;> rfl
 simp only [runOps, LK.step, SliceK, LK.run, LO.ev, e1]
theorem SliceK_str {st : Bool} {sz : Nat} {s : ByteArray} {lo hi : Option D} : SliceK P dr st sz (.str s) lo hi dst os K env σ = contP P dr (sliceD st sz (.str s) (bndD lo 0) (bndD hi s.size)) dst os K env σ := by
 have e1 : ∀ x : Option D, (Option.map (LO.ev env) (x.map LO.c)) = x := fun x => by cases x <;> rfl
 simp only [SliceK, LK.run, LO.ev, contP, bnd_D, e1]
 cases bndD lo 0 <;> cases bndD hi s.size <;> simp [sliceD, and_assoc]
theorem SliceK_list {st : Bool} {sz : Nat} {nl : Option Bool} {tg : Bool} {rows : List (List D)} {lo hi : Option D} : SliceK P dr st sz (.list nl tg rows) lo hi dst os K env σ = contP P dr (sliceD st sz (.list nl tg rows) (bndD lo 0) (bndD hi rows.length)) dst os K env σ := by
 have e1 : ∀ x : Option D, (Option.map (LO.ev env) (x.map LO.c)) = x := fun x => by cases x <;> rfl
 simp only [SliceK, LK.run, LO.ev, contP, bnd_D, e1]
 cases bndD lo 0 <;> cases bndD hi rows.length <;> simp [sliceD, and_assoc]
theorem SliceK_own {sz l i k n z : Nat} {cl : Option Nat} {lo hi : Option D} {a b : Int} (h1 : bndD lo 0 = some a) (h2 : bndD hi k = some b) (h3 : z = sz ∧ 0 ≤ a ∧ a ≤ b ∧ b ≤ k) (h : runOps P dr os K (put env dst (.own l (i + a.toNat) (b.toNat - a.toNat) n z cl)) σ) :
  SliceK P dr false sz (.own l i k n z cl) lo hi dst os K env σ := by
 have e1 : ∀ x : Option D, (Option.map (LO.ev env) (x.map LO.c)) = x := fun x => by cases x <;> rfl
 simp only [SliceK, LK.run, LO.ev, bnd_D, e1, h1, h2]
 exact ⟨trivial, h3.1, h3.2.1, h3.2.2.1, .inl ⟨h3.2.2.2, h⟩⟩
def slice3D (sz : Nat) : D → Option Int → Option Int → Option Int → Option (Prop × D)
 | .list nl _ rows, some l, some h, some m => some (0 < sz ∧ (∀ r ∈ rows, r.length = sz) ∧ 0 ≤ l ∧ l ≤ h ∧ h ≤ m ∧ m ≤ rows.length, .list nl (decide (h = m)) ((rows.take h.toNat).drop l.toNat))
 | .own l' i k n z cl, some l, some h, some m => some (z = sz ∧ 0 ≤ l ∧ l ≤ h ∧ h ≤ m ∧ m ≤ k, .own l' (i + l.toNat) (h.toNat - l.toNat) n z (some (i + m.toNat)))
 | _, _, _, _ => none
theorem ro_slice3 {sz : Nat} {x : LO} {lo : Option LO} {hi m : LO} : runOps P dr (⟨dst, none, .slice3 sz x lo hi m⟩ :: os) K env σ =
  contP P dr (slice3D sz (x.ev env) (bndD (lo.map (LO.ev env)) 0) (bndD (some (hi.ev env)) 0) (bndD (some (m.ev env)) 0)) dst os K env σ := by
 simp only [runOps, LK.step, LK.run, contP]
 cases hx : x.ev env <;> simp only [slice3D, bnd_D] <;> (try (cases bndD (lo.map (LO.ev env)) 0 <;> cases bndD (some (hi.ev env)) 0 <;> cases bndD (some (m.ev env)) 0 <;> simp [and_assoc]))
def LoadK (P : Program) (dr : Bool) (x : D) (ag : Option Nat) (dst : Option Nat) (os : List LOp) (K : Env → List Ob → Prop) (env : Env) (σ : List Ob) : Prop :=
 runOps P dr (⟨dst, none, .load ag (.c x)⟩ :: os) K env σ
def LoadO (P : Program) (dr : Bool) (o : Option Ob) (j i n : Nat) (ag : Option Nat) (dst : Option Nat) (os : List LOp) (K : Env → List Ob → Prop) (env : Env) (σ : List Ob) : Prop :=
 match o with
 | some o => o.rows.length = n ∧ o.real = true ∧ j < n ∧ ∀ r, o.rows[j]? = some r → contP P dr (loadD r i ag) dst os K env σ
 | none => False
def LoadR (P : Program) (dr : Bool) (r : Option (List D)) (i : Nat) (ag : Option Nat) (dst : Option Nat) (os : List LOp) (K : Env → List Ob → Prop) (env : Env) (σ : List Ob) : Prop :=
 ∀ r', r = some r' → contP P dr (loadD r' i ag) dst os K env σ
theorem ro_load {ag : Option Nat} {x : LO} : runOps P dr (⟨dst, none, .load ag x⟩ :: os) K env σ = LoadK P dr (x.ev env) ag dst os K env σ := id rfl
theorem LoadK_elt {r : List D} {i : Nat} {ag : Option Nat} : LoadK P dr (.elt r i) ag dst os K env σ = contP P dr (loadD r i ag) dst os K env σ := by
 simp only [LoadK, runOps, LK.step, LK.run, contP, LO.ev, loadRow_D]
theorem LoadK_ptr {l j i n : Nat} {ag : Option Nat} : LoadK P dr (.ptr l j i n) ag dst os K env σ = LoadO P dr (σ[l]?) j i n ag dst os K env σ := by
 simp only [LoadK, runOps, LK.step, LK.run, contP, LO.ev, loadRow_D, LoadO]
 cases σ[l]? <;> rfl
theorem LoadO_some {o : Ob} {j i n : Nat} {ag : Option Nat} : LoadO P dr (some o) j i n ag dst os K env σ = ((o.rows.length = n ∧ o.real = true ∧ j < n) ∧ LoadR P dr (o.rows[j]?) i ag dst os K env σ) := by
 simp [LoadO, LoadR, and_assoc]
theorem LoadR_some {r : List D} {i : Nat} {ag : Option Nat} : LoadR P dr (some r) i ag dst os K env σ = contP P dr (loadD r i ag) dst os K env σ := by
 simp [LoadR]
theorem LoadR_map {α : Type} {f : α → List D} {xs : List α} {m i : Nat} {ag : Option Nat} : LoadR P dr ((xs.map f)[m]?) i ag dst os K env σ = ∀ x, xs[m]? = some x → contP P dr (loadD (f x) i ag) dst os K env σ := by
 simp [LoadR]
theorem ro_box {x : LO} : runOps P dr (⟨dst, none, .box x⟩ :: os) K env σ = (((x.ev env).cells ≠ [] ∧ (x.ev env).ok = true) ∧
  runOps P dr os K (put env dst (.ptr σ.length 0 0 1)) (σ ++ [⟨true, false, (x.ev env).cells.all D.pt1, false, (x.ev env).cells.length, [(x.ev env).cells], some 0⟩])) := by
 simp only [runOps, LK.step, LK.run, and_assoc]
theorem ro_alloc {zs : List D} : runOps P dr (⟨dst, none, .alloc zs⟩ :: os) K env σ = (zs ≠ [] ∧ runOps P dr os K (put env dst (.ptr σ.length 0 0 1)) (σ ++ [⟨true, false, zs.all D.pt1, false, zs.length, [zs], some 0⟩])) := by
 simp only [runOps, LK.step, LK.run]
def StoreK (P : Program) (dr : Bool) (n : Nat) (x y : D) (dst : Option Nat) (os : List LOp) (K : Env → List Ob → Prop) (env : Env) (σ : List Ob) : Prop :=
 runOps P dr (⟨dst, none, .store n (.c x) (.c y)⟩ :: os) K env σ
def StoreO (P : Program) (dr : Bool) (o : Option Ob) (l j i n m : Nat) (y : D) (dst : Option Nat) (os : List LOp) (K : Env → List Ob → Prop) (env : Env) (σ : List Ob) : Prop :=
 match o with
 | some o => o.rows.length = m ∧ o.real = true ∧ o.fz = false ∧ y.cells.length = n ∧ i + n ≤ o.sz ∧ y.ok = true ∧ j < m ∧
   ∀ r, o.rows[j]? = some r → runOps P dr os K (put env dst .undef) (σ.set l { o with pure := o.pure && y.cells.all D.pt1, rows := o.rows.set j (splice r i y.cells) })
 | none => False
def StoreR (P : Program) (dr : Bool) (r : Option (List D)) (o : Ob) (l j i : Nat) (y : D) (dst : Option Nat) (os : List LOp) (K : Env → List Ob → Prop) (env : Env) (σ : List Ob) : Prop :=
 ∀ r', r = some r' → runOps P dr os K (put env dst .undef) (σ.set l { o with pure := o.pure && y.cells.all D.pt1, rows := o.rows.set j (splice r' i y.cells) })
theorem ro_store {n : Nat} {x y : LO} : runOps P dr (⟨dst, none, .store n x y⟩ :: os) K env σ = StoreK P dr n (x.ev env) (y.ev env) dst os K env σ := id rfl
theorem StoreK_ptr {l j i m n : Nat} {y : D} : StoreK P dr n (.ptr l j i m) y dst os K env σ = StoreO P dr (σ[l]?) l j i n m y dst os K env σ := by
 simp only [StoreK, runOps, LK.step, LK.run, LO.ev, StoreO]
 cases σ[l]? <;> rfl
theorem StoreO_some {o : Ob} {l j i n m : Nat} {y : D} : StoreO P dr (some o) l j i n m y dst os K env σ = ((o.rows.length = m ∧ o.real = true ∧ o.fz = false ∧ y.cells.length = n ∧ i + n ≤ o.sz ∧ y.ok = true ∧ j < m) ∧ StoreR P dr (o.rows[j]?) o l j i y dst os K env σ) := by
 simp [StoreO, StoreR, and_assoc]
theorem StoreR_some {r : List D} {o : Ob} {l j i : Nat} {y : D} : StoreR P dr (some r) o l j i y dst os K env σ = runOps P dr os K (put env dst .undef) (σ.set l { o with pure := o.pure && y.cells.all D.pt1, rows := o.rows.set j (splice r i y.cells) }) := by
 simp [StoreR]
def IaddrK (P : Program) (dr : Bool) (sz : Nat) (x i : D) (dst : Option Nat) (os : List LOp) (K : Env → List Ob → Prop) (env : Env) (σ : List Ob) : Prop :=
 runOps P dr (⟨dst, none, .iaddr sz (.c x) (.c i)⟩ :: os) K env σ
def IaddrR (P : Program) (dr : Bool) (sz : Nat) (r : Option (List D)) (dst : Option Nat) (os : List LOp) (K : Env → List Ob → Prop) (env : Env) (σ : List Ob) : Prop :=
 ∀ r', r = some r' → r'.length = sz ∧ runOps P dr os K (put env dst (.elt r' 0)) σ
theorem ro_iaddr {sz : Nat} {x i : LO} : runOps P dr (⟨dst, none, .iaddr sz x i⟩ :: os) K env σ = IaddrK P dr sz (x.ev env) (i.ev env) dst os K env σ := id rfl
theorem IaddrK_list {sz : Nat} {nl : Option Bool} {tg : Bool} {rows : List (List D)} {k : IntKind} {n : Int} : IaddrK P dr sz (.list nl tg rows) (.int k n) dst os K env σ = ((0 ≤ n ∧ n < rows.length) ∧ IaddrR P dr sz (rows[n.toNat]?) dst os K env σ) := by
 simp only [IaddrK, runOps, LK.step, LK.run, LO.ev, IaddrR, and_assoc]
theorem IaddrK_own {sz l i q m z : Nat} {cl : Option Nat} {k : IntKind} {n : Int} : IaddrK P dr sz (.own l i q m z cl) (.int k n) dst os K env σ = ((z = sz ∧ 0 ≤ n ∧ n < q) ∧ runOps P dr os K (put env dst (.ptr l (i + n.toNat) 0 m)) σ) := by
 simp only [IaddrK, runOps, LK.step, LK.run, LO.ev, and_assoc]
theorem IaddrR_some {sz : Nat} {r : List D} : IaddrR P dr sz (some r) dst os K env σ = (r.length = sz ∧ runOps P dr os K (put env dst (.elt r 0)) σ) := by
 simp [IaddrR]
theorem IaddrR_map {sz : Nat} {α : Type} {f : α → List D} {xs : List α} {m : Nat} : IaddrR P dr sz ((xs.map f)[m]?) dst os K env σ = ∀ x, xs[m]? = some x → (f x).length = sz ∧ runOps P dr os K (put env dst (.elt (f x) 0)) σ := by
 simp [IaddrR]
def AppS (P : Program) (dr : Bool) (sz bytes : Nat) (new : List (List D)) (pu : Bool) (s : D) (dst : Option Nat) (os : List LOp) (K : Env → List Ob → Prop) (env : Env) (σ : List Ob) : Prop :=
 appRun sz bytes new pu s σ fun d σ' => runOps P dr os K (put env dst d) σ'
def AppN (P : Program) (dr : Bool) (sz bytes : Nat) (x : Option (List (List D) × Bool)) (s : D) (dst : Option Nat) (os : List LOp) (K : Env → List Ob → Prop) (env : Env) (σ : List Ob) : Prop :=
 match x with
 | some (new, pu) => AppS P dr sz bytes new pu s dst os K env σ
 | none => False
def AppO (P : Program) (dr : Bool) (o : Option Ob) (l i k n sz bytes : Nat) (cl : Option Nat) (new : List (List D)) (pu : Bool) (dst : Option Nat) (os : List LOp) (K : Env → List Ob → Prop) (env : Env) (σ : List Ob) : Prop :=
 match o with
 | some o => (o.rows.length = n ∧ (k + new.length) * bytes ≤ 140737488355328 ∧ k + new.length ≤ 9223372036854775807) ∧ appOwn sz new pu l i k n cl o σ fun d σ' => runOps P dr os K (put env dst d) σ'
 | none => False
theorem ro_app {sz bytes : Nat} {s x : LO} : runOps P dr (⟨dst, none, .app sz bytes s x⟩ :: os) K env σ = AppN P dr sz bytes (newsD σ (x.ev env)) (s.ev env) dst os K env σ := by
 simp only [runOps, LK.step, LK.run, AppN, AppS]
 cases newsD σ (x.ev env) <;> rfl
theorem AppN_some {sz bytes : Nat} {new : List (List D)} {pu : Bool} {s : D} : AppN P dr sz bytes (some (new, pu)) s dst os K env σ = AppS P dr sz bytes new pu s dst os K env σ := id rfl
def AppZ (P : Program) (dr : Bool) (sz bytes : Nat) (zs : List D) (x s : D) (dst : Option Nat) (os : List LOp) (K : Env → List Ob → Prop) (env : Env) (σ : List Ob) : Prop :=
 match x with
 | .int k n => (k = .i64 ∧ zs.length = sz ∧ 0 ≤ n ∧ n * bytes ≤ 140737488355328 ∧ n ≤ 9223372036854775807) ∧ AppS P dr sz bytes (List.replicate n.toNat zs) (zs.all D.pt1) s dst os K env σ
 | _ => False
theorem ro_appz {sz bytes : Nat} {zs : List D} {s x : LO} : runOps P dr (⟨dst, none, .appz sz bytes zs s x⟩ :: os) K env σ = AppZ P dr sz bytes zs (x.ev env) (s.ev env) dst os K env σ := by
 simp only [runOps, LK.step, LK.run, AppZ, AppS]
 cases x.ev env <;> rfl
theorem AppZ_int {sz bytes : Nat} {zs : List D} {k : IntKind} {n : Int} {s : D} : AppZ P dr sz bytes zs (.int k n) s dst os K env σ = ((k = .i64 ∧ zs.length = sz ∧ 0 ≤ n ∧ n * bytes ≤ 140737488355328 ∧ n ≤ 9223372036854775807) ∧ AppS P dr sz bytes (List.replicate n.toNat zs) (zs.all D.pt1) s dst os K env σ) := id rfl
theorem AppS_nil {sz bytes : Nat} {b : Bool} {new : List (List D)} {pu : Bool} : AppS P dr sz bytes new pu (.list (some b) true []) dst os K env σ = (((∀ r ∈ new, r.length = sz) ∧ 0 < sz ∧ new.length * bytes ≤ 140737488355328 ∧ new.length ≤ 9223372036854775807) ∧
  runOps P dr os K (put env dst (.own σ.length 0 new.length new.length sz none)) (σ ++ [acc b sz pu new])) := by
 simp only [AppS, appRun, and_assoc, acc]
theorem AppS_own {sz bytes l i k n z : Nat} {cl : Option Nat} {new : List (List D)} {pu : Bool} : AppS P dr sz bytes new pu (.own l i k n z cl) dst os K env σ = (((∀ r ∈ new, r.length = sz) ∧ 0 < sz ∧ z = sz) ∧ AppO P dr (σ[l]?) l i k n sz bytes cl new pu dst os K env σ) := by
 simp only [AppS, appRun, and_assoc, AppO]
 cases σ[l]? <;> simp [and_assoc]
theorem AppO_acc {b : Bool} {sz' : Nat} {pu0 : Bool} {rows : List (List D)} {l n sz bytes : Nat} {new : List (List D)} {pu : Bool} : AppO P dr (some (acc b sz' pu0 rows)) l 0 n n sz bytes none new pu dst os K env σ = ((rows.length = n ∧ (n + new.length) * bytes ≤ 140737488355328 ∧ n + new.length ≤ 9223372036854775807) ∧
  runOps P dr os K (put env dst (.own l 0 (n + new.length) (n + new.length) sz none)) (σ.set l (acc b sz' (pu0 && pu) (rows ++ new)))) := by
 have e : ({ acc b sz' pu0 rows with real := (acc b sz' pu0 rows).real || !new.isEmpty, nl := (acc b sz' pu0 rows).nl && new.isEmpty, pure := (acc b sz' pu0 rows).pure && pu, rows := (acc b sz' pu0 rows).rows ++ new, spare := none } : Ob) = acc b sz' (pu0 && pu) (rows ++ new) := by
  simp only [acc]
  cases rows <;> cases new <;> simp
 simp only [AppO, appOwn, and_self, if_true, e]
 simp only [acc, true_and]
theorem AppO_in {o : Ob} {l i k n sz bytes : Nat} {cl : Option Nat} {new : List (List D)} {pu : Bool} (hne : ¬ (i = 0 ∧ k = n ∧ cl = none)) (h1 : o.rows.length = n ∧ (k + new.length) * bytes ≤ 140737488355328 ∧ k + new.length ≤ 9223372036854775807) (h2 : o.fz = false ∧ i + k + new.length ≤ n ∧ ∀ e, cl = some e → i + k + new.length ≤ e)
  (h : runOps P dr os K (put env dst (.own l i (k + new.length) n sz cl)) (σ.set l { o with pure := o.pure && pu, rows := o.rows.take (i + k) ++ new ++ o.rows.drop (i + k + new.length) })) : AppO P dr (some o) l i k n sz bytes cl new pu dst os K env σ := by
 simp only [AppO, appOwn, if_neg hne]
 exact ⟨h1, .inl ⟨h2.1, h2.2.1, h2.2.2, h⟩⟩
def CapK (P : Program) (x : D) (dst : Option Nat) (os : List LOp) (K : Env → List Ob → Prop) (env : Env) (σ : List Ob) : Prop := runOps P false (⟨dst, none, .cap (.c x)⟩ :: os) K env σ
def CapO (P : Program) (o : Option Ob) (l i k n : Nat) (dst : Option Nat) (os : List LOp) (K : Env → List Ob → Prop) (env : Env) (σ : List Ob) : Prop := match o with
 | some o => o.rows.length = n ∧ if o.real = true then (match o.spare with
   | some c => runOps P false os K (put env dst (.int .i64 (n + c - i : Nat))) σ
   | none => o.fz = false ∧ ∀ c : Nat, n + c ≤ 9223372036854775807 → runOps P false os K (put env dst (.int .i64 (n + c - i : Nat))) (σ.set l { o with spare := some c })) else runOps P false os K (put env dst (.int .i64 0)) σ
 | none => False
def OvlK (P : Program) (x y : D) (dst : Option Nat) (os : List LOp) (K : Env → List Ob → Prop) (env : Env) (σ : List Ob) : Prop := runOps P false (⟨dst, none, .ovl (.c x) (.c y)⟩ :: os) K env σ
theorem ro_ovl {x y : LO} : runOps P false (⟨dst, none, .ovl x y⟩ :: os) K env σ = OvlK P (x.ev env) (y.ev env) dst os K env σ := id rfl
def OvlO (P : Program) (o : Option Ob) (rows : List (List D)) (n z : Nat) (dst : Option Nat) (os : List LOp) (K : Env → List Ob → Prop) (env : Env) (σ : List Ob) : Prop := match o with
 | some o => ((0 < z ∧ ∀ r ∈ rows, r ≠ []) ∧ o.rows.length = n ∧ o.real = true ∧ o.fz = false) ∧ runOps P false os K (put env dst (.bool false)) σ
 | none => False
theorem OvlO_some {o : Ob} {rows : List (List D)} {n z : Nat} : OvlO P (some o) rows n z dst os K env σ = (((0 < z ∧ ∀ r ∈ rows, r ≠ []) ∧ o.rows.length = n ∧ o.real = true ∧ o.fz = false) ∧ runOps P false os K (put env dst (.bool false)) σ) := id rfl
theorem OvlK_own {nl : Option Bool} {tg : Bool} {rows : List (List D)} {l i k n z : Nat} {cl : Option Nat} : OvlK P (.list nl tg rows) (.own l i k n z cl) dst os K env σ = OvlO P (σ[l]?) rows n z dst os K env σ := by
 cases ho : σ[l]? <;> simp [OvlK, OvlO, runOps, LK.step, LK.run, LO.ev, ho, and_assoc]
theorem ro_cap {x : LO} : runOps P false (⟨dst, none, .cap x⟩ :: os) K env σ = CapK P (x.ev env) dst os K env σ := id rfl
theorem CapK_own {l i k n z : Nat} : CapK P (.own l i k n z none) dst os K env σ = CapO P (σ[l]?) l i k n dst os K env σ := by
 simp only [CapK, runOps, LK.step, LK.run, LO.ev, CapO, true_and]
 cases σ[l]? with
 | none => rfl
 | some o => cases o.spare <;> rfl
def CopyK (P : Program) (dr : Bool) (sz : Nat) (x : D) (s : Option (List (List D) × Bool)) (dst : Option Nat) (os : List LOp) (K : Env → List Ob → Prop) (env : Env) (σ : List Ob) : Prop := match s with
 | some (new, pu) => (∀ r ∈ new, r.length = sz) ∧ match x with
   | .own l i k n z cl => z = sz ∧ match σ[l]? with
    | some o => o.rows.length = n ∧ o.fz = false ∧ (pu || (new.take k).all fun r => r.all D.one) = true ∧ runOps P dr os K (put env dst (.int .i64 (min new.length k : Nat))) (σ.set l { o with pure := o.pure && pu, rows := o.rows.take i ++ new.take k ++ o.rows.drop (i + min new.length k) })
    | none => False
   | .list _ _ [] => runOps P dr os K (put env dst (.int .i64 0)) σ
   | _ => False
 | none => False
theorem ro_copy {sz : Nat} {x y : LO} : runOps P dr (⟨dst, none, .copy sz x y⟩ :: os) K env σ = CopyK P dr sz (x.ev env) (newsC σ (y.ev env)) dst os K env σ := by
 simp only [runOps, LK.step, LK.run, CopyK]
 cases newsC σ (y.ev env) <;> rfl
def CopyO (P : Program) (dr : Bool) (o : Option Ob) (l i k n : Nat) (new : List (List D)) (pu : Bool) (dst : Option Nat) (os : List LOp) (K : Env → List Ob → Prop) (env : Env) (σ : List Ob) : Prop := match o with
 | some o => o.rows.length = n ∧ o.fz = false ∧ (pu || (new.take k).all fun r => r.all D.one) = true ∧ runOps P dr os K (put env dst (.int .i64 (min new.length k : Nat))) (σ.set l { o with pure := o.pure && pu, rows := o.rows.take i ++ new.take k ++ o.rows.drop (i + min new.length k) })
 | none => False
theorem CopyK_own {sz l i k n z : Nat} {cl : Option Nat} {new : List (List D)} {pu : Bool} : CopyK P dr sz (.own l i k n z cl) (some (new, pu)) dst os K env σ = (((∀ r ∈ new, r.length = sz) ∧ z = sz) ∧ CopyO P dr (σ[l]?) l i k n new pu dst os K env σ) := by
 simp only [CopyK, CopyO, and_assoc]
theorem CopyO_some {o : Ob} {l i k n : Nat} {new : List (List D)} {pu : Bool} : CopyO P dr (some o) l i k n new pu dst os K env σ = ((o.rows.length = n ∧ o.fz = false ∧ (pu || (new.take k).all fun r => r.all D.one) = true) ∧ runOps P dr os K (put env dst (.int .i64 (min new.length k : Nat))) (σ.set l { o with pure := o.pure && pu, rows := o.rows.take i ++ new.take k ++ o.rows.drop (i + min new.length k) })) := by
 simp only [CopyO, and_assoc]
def ClearK (P : Program) (dr : Bool) (zs : List D) (x : D) (dst : Option Nat) (os : List LOp) (K : Env → List Ob → Prop) (env : Env) (σ : List Ob) : Prop := runOps P dr (⟨dst, none, .clear zs (.c x)⟩ :: os) K env σ
def ClearO (P : Program) (dr : Bool) (o : Option Ob) (l i k n : Nat) (zs : List D) (dst : Option Nat) (os : List LOp) (K : Env → List Ob → Prop) (env : Env) (σ : List Ob) : Prop := match o with
 | some o => (o.rows.length = n ∧ o.fz = false) ∧ runOps P dr os K (put env dst (.tup [])) (σ.set l { o with pure := o.pure && zs.all D.pt1, rows := o.rows.take i ++ List.replicate k zs ++ o.rows.drop (i + k) })
 | none => False
theorem ro_clear {zs : List D} {x : LO} : runOps P dr (⟨dst, none, .clear zs x⟩ :: os) K env σ = ClearK P dr zs (x.ev env) dst os K env σ := id rfl
theorem ClearK_own {zs : List D} {l i k n z : Nat} {cl : Option Nat} : ClearK P dr zs (.own l i k n z cl) dst os K env σ = (z = zs.length ∧ ClearO P dr (σ[l]?) l i k n zs dst os K env σ) := by
 simp only [ClearK, runOps, LK.step, LK.run, LO.ev, ClearO]
 cases σ[l]? <;> simp [and_assoc]
theorem ClearO_some {o : Ob} {l i k n : Nat} {zs : List D} : ClearO P dr (some o) l i k n zs dst os K env σ = ((o.rows.length = n ∧ o.fz = false) ∧ runOps P dr os K (put env dst (.tup [])) (σ.set l { o with pure := o.pure && zs.all D.pt1, rows := o.rows.take i ++ List.replicate k zs ++ o.rows.drop (i + k) })) := id rfl
theorem ClearK_nil {zs : List D} {nl : Option Bool} {tg : Bool} : ClearK P dr zs (.list nl tg []) dst os K env σ = runOps P dr os K (put env dst (.tup [])) σ := by
 simp only [ClearK, runOps, LK.step, LK.run, LO.ev]
def MksK (P : Program) (dr : Bool) (zs : List D) (bytes : Nat) (n c : D) (dst : Option Nat) (os : List LOp) (K : Env → List Ob → Prop) (env : Env) (σ : List Ob) : Prop := runOps P dr (⟨dst, none, .mks zs bytes (.c n) (.c c)⟩ :: os) K env σ
theorem ro_mks {zs : List D} {bytes : Nat} {n c : LO} : runOps P dr (⟨dst, none, .mks zs bytes n c⟩ :: os) K env σ = MksK P dr zs bytes (n.ev env) (c.ev env) dst os K env σ := id rfl
theorem MksK_int {zs : List D} {bytes : Nat} {k1 k2 : IntKind} {a b : Int} : MksK P dr zs bytes (.int k1 a) (.int k2 b) dst os K env σ = ((zs ≠ [] ∧ 0 ≤ a ∧ a ≤ b ∧ b * bytes ≤ 140737488355328 ∧ b ≤ 9223372036854775807) ∧
  runOps P dr os K (put env dst (.own σ.length 0 a.toNat a.toNat zs.length none)) (σ ++ [⟨true, false, zs.all D.pt1, false, zs.length, List.replicate a.toNat zs, some (b.toNat - a.toNat)⟩])) := by
 simp only [MksK, runOps, LK.step, LK.run, LO.ev, and_assoc]
def newsO (o : Option Ob) (i k n : Nat) : Option (List (List D) × Bool) := match o with
 | some o => if o.rows.length = n ∧ (o.pure || (winD i k n o.rows).all fun r => r.all D.one) = true then some (winD i k n o.rows, o.pure) else none
 | none => none
def newsCO (o : Option Ob) (i k n : Nat) : Option (List (List D) × Bool) := match o with
 | some o => if o.rows.length = n then some (winD i k n o.rows, o.pure) else none
 | none => none
theorem newsCO_some {o : Ob} {i k n : Nat} : newsCO (some o) i k n = if o.rows.length = n then some (winD i k n o.rows, o.pure) else none := id rfl
theorem newsC_list {σ : List Ob} {nl : Option Bool} {tg : Bool} {rows : List (List D)} : newsC σ (.list nl tg rows) = some (rows, true) := id rfl
theorem newsC_str {σ : List Ob} {s : ByteArray} : newsC σ (.str s) = some (s.data.toList.map (fun b => [.int .u8 b.toNat]), true) := id rfl
theorem newsC_own {σ : List Ob} {l i k n z : Nat} {cl : Option Nat} : newsC σ (.own l i k n z cl) = newsCO (σ[l]?) i k n := by
 simp only [newsC, newsCO]; cases σ[l]? <;> rfl
theorem newsD_list {σ : List Ob} {nl : Option Bool} {tg : Bool} {rows : List (List D)} : newsD σ (.list nl tg rows) = some (rows, true) := id rfl
theorem newsD_str {σ : List Ob} {s : ByteArray} : newsD σ (.str s) = some (s.data.toList.map (fun b => [.int .u8 b.toNat]), true) := id rfl
theorem newsD_own {σ : List Ob} {l i k n z : Nat} {cl : Option Nat} : newsD σ (.own l i k n z cl) = newsO (σ[l]?) i k n := by
 simp only [newsD, newsO]; cases σ[l]? <;> rfl
theorem newsO_some {o : Ob} {i k n : Nat} : newsO (some o) i k n = if o.rows.length = n ∧ (o.pure || (winD i k n o.rows).all fun r => r.all D.one) = true then some (winD i k n o.rows, o.pure) else none := id rfl
theorem winD_all {n : Nat} {rows : List (List D)} : winD 0 n n rows = rows := by simp [winD]
def viewO (o : Option Ob) (i k n : Nat) : Option (List (List D)) := match o with
 | some o => if o.rows.length = n ∧ (o.pure || (winD i k n o.rows).all fun r => r.all D.pt1) = true then some (winD i k n o.rows) else none
 | none => none
theorem viewS_list {σ : List Ob} {nl : Option Bool} {tg : Bool} {rows : List (List D)} : viewS σ (.list nl tg rows) = some rows := id rfl
theorem viewS_own' {σ : List Ob} {l i k n z : Nat} {cl : Option Nat} : viewS σ (.own l i k n z cl) = viewO (σ[l]?) i k n := by
 simp only [viewS, viewO]; cases σ[l]? <;> rfl
theorem viewO_some {o : Ob} {i k n : Nat} : viewO (some o) i k n = if o.rows.length = n ∧ (o.pure || (winD i k n o.rows).all fun r => r.all D.pt1) = true then some (winD i k n o.rows) else none := id rfl
theorem rx_nil : runOpsX P [] K env σ = K env σ := id rfl
theorem rx_cons {o : LOp} {ts : List Nat} {os : List (LOp × List Nat)} : runOpsX P ((o, ts) :: os) K env σ = runOps P true [o] (fun env1 σ1 => runOpsX P os (keepK ts σ σ1 K) env1 σ1) env σ := id rfl
theorem keepK_nil {σ1 : List Ob} : keepK [] σ σ1 K = K := id rfl
def keepN (σ σ1 : List Ob) : List Nat → Prop
 | [] => True
 | l :: ls => σ[l]? = σ1[l]? ∧ keepN σ σ1 ls
def keepE (σ σ1 : List Ob) (env : Env) : List Nat → Prop
 | [] => True
 | t :: ts => keepN σ σ1 (lk env t).names ∧ keepE σ σ1 env ts
theorem keepN_nil {σ1 : List Ob} : keepN σ σ1 [] = True := id rfl
theorem keepN_cons {σ1 : List Ob} {l : Nat} {ls : List Nat} : keepN σ σ1 (l :: ls) = (σ[l]? = σ1[l]? ∧ keepN σ σ1 ls) := id rfl
theorem keepE_nil {σ1 : List Ob} : keepE σ σ1 env [] = True := id rfl
theorem keepE_cons {σ1 : List Ob} {t : Nat} {ts : List Nat} : keepE σ σ1 env (t :: ts) = (keepN σ σ1 (lk env t).names ∧ keepE σ σ1 env ts) := id rfl
theorem keepN_iff {σ1 : List Ob} : ∀ (ls : List Nat), keepN σ σ1 ls ↔ ∀ l ∈ ls, σ[l]? = σ1[l]?
 | [] => by simp [keepN]
 | l :: ls => by simp [keepN, keepN_iff ls]
theorem keepE_iff {σ1 : List Ob} : ∀ (ts : List Nat), keepE σ σ1 env ts ↔ ∀ t ∈ ts, keepD σ σ1 (lk env t)
 | [] => by simp [keepE]
 | t :: ts => by simp [keepE, keepE_iff ts, keepN_iff, keepD]
theorem keepK_cons {t : Nat} {ts : List Nat} {σ1 σ2 : List Ob} : keepK (t :: ts) σ σ1 K env σ2 = (keepE σ σ1 env (t :: ts) ∧ K env σ2) := by
 rw [show keepK (t :: ts) σ σ1 K env σ2 = ((∀ x ∈ t :: ts, keepD σ σ1 (lk env x)) ∧ K env σ2) from rfl, ← keepE_iff]
def GuardK (P : Program) (dr : Bool) (d : D) (want : Bool) (dst : Option Nat) (k : LK) (os : List LOp) (K : Env → List Ob → Prop) (env : Env) (σ : List Ob) : Prop :=
 ∃ g, gv d g ∧ (g = some want → runOps P dr (⟨dst, none, k⟩ :: os) K env σ) ∧ (g ≠ some want → runOps P dr os K (put env dst (.tup [])) σ)
theorem ro_guard {t : Nat} {want : Bool} {k : LK} : runOps P dr (⟨dst, some (t, want), k⟩ :: os) K env σ = GuardK P dr (lk env t) want dst k os K env σ := id rfl
theorem gv_bool {b : Bool} {g : Option Bool} : gv (.bool b) g = (g = some b) := by
 cases g <;> simp [gv, eq_comm]
theorem gv_tup {g : Option Bool} : gv (.tup []) g = (g = none) := by
 cases g <;> simp [gv]
theorem GuardK_tt {k : LK} : GuardK P dr (.bool true) true dst k os K env σ = runOps P dr (⟨dst, none, k⟩ :: os) K env σ := by simp [GuardK, gv_bool]
theorem GuardK_ff {k : LK} : GuardK P dr (.bool false) false dst k os K env σ = runOps P dr (⟨dst, none, k⟩ :: os) K env σ := by simp [GuardK, gv_bool]
theorem GuardK_tf {k : LK} : GuardK P dr (.bool true) false dst k os K env σ = runOps P dr os K (put env dst (.tup [])) σ := by simp [GuardK, gv_bool]
theorem GuardK_ft {k : LK} : GuardK P dr (.bool false) true dst k os K env σ = runOps P dr os K (put env dst (.tup [])) σ := by simp [GuardK, gv_bool]
theorem GuardK_no {k : LK} {want : Bool} : GuardK P dr (.tup []) want dst k os K env σ = runOps P dr os K (put env dst (.tup [])) σ := by simp [GuardK, gv_tup]
theorem GuardK_split {b want : Bool} {k : LK} (h1 : b = true → GuardK P dr (.bool true) want dst k os K env σ) (h2 : b = false → GuardK P dr (.bool false) want dst k os K env σ) : GuardK P dr (.bool b) want dst k os K env σ := by
 cases b
 ·exact h2 rfl
 ·exact h1 rfl
theorem ro_pure {f : LO} {args : List LO} {fid : FuncId} {caps : List D} {ds' : List D} {r : D} (hb : fid < bB) (h : PureD P fid ds' r) (hf : f.ev env = .fn fid caps) (hv : mapO (view σ) (args.map (LO.ev env) ++ caps) = some ds') (hs : ((args.map (LO.ev env) ++ caps).all D.pt || r.sc) = true)
  (hk : runOps P dr os K (put env dst r) σ) : runOps P dr (⟨dst, none, .call f args⟩ :: os) K env σ := by
 simp only [runOps, LK.step, CallK, hf, fnN_lt hb, fnA_lt hb]
 cases dr with
 | true => exact ⟨r, ds', hv, h, hs, hk⟩
 | false => exact ⟨_, call_of_pure h hv hs, fun d σ' ⟨h1, h2⟩ => by rw [h1, h2]; exact hk⟩
theorem ro_pureX {f : LO} {args : List LO} {fid : FuncId} {caps : List D} {ds' : List D} {r : D} (hb : fid < bB) (h : PureD P fid ds' r) (hf : f.ev env = .fn fid caps) (hv : mapO (view σ) (args.map (LO.ev env) ++ caps) = some ds') (hs : ((args.map (LO.ev env) ++ caps).all D.pt || r.sc) = true)
  (hk : runOps P dr os K (put env dst r) σ) : runOps P dr (⟨dst, none, .callX f args⟩ :: os) K env σ := by
 simp only [runOps, LK.step, CallKX, hf, fnN_lt hb, fnA_lt hb]
 cases dr with
 | true => exact ⟨r, σ, call_of_pure h hv hs, hk⟩
 | false => exact ⟨_, call_of_pure h hv hs, fun d σ' ⟨h1, h2⟩ => by rw [h1, h2]; exact hk⟩
theorem lk_nil {n : Nat} : lk [] n = .undef := id rfl
theorem put_some {k : Nat} {d : D} {e : Env} : put e (some k) d = (k, d) :: e := id rfl
theorem put_none {d : D} {e : Env} : put e none d = e := id rfl
theorem ev_t {n : Nat} {env : Env} : LO.ev env (.t n) = lk env n := id rfl
theorem ev_c {d : D} {env : Env} : LO.ev env (.c d) = d := id rfl
def CondK (P : Program) (N : Nat) (base : List Ob) (d : D) (x y : LC) (k : List LI) (post : Env → List Ob → Prop) (env : Env) (σ : List Ob) : Prop :=
 ∃ v, d = .bool v ∧ (v = true → Run P N base (.code x :: k) post env σ) ∧ (v = false → Run P N base (.code y :: k) post env σ)
theorem Run_condK {N : Nat} {base : List Ob} {c : LO} {x y : LC} {k : List LI} {post : Env → List Ob → Prop} (h : CondK P N base (c.ev env) x y k post env σ) : Run P N base (.code (.cond c x y) :: k) post env σ := by
 obtain ⟨v, h1, h2, h3⟩ := h
 exact Run_cond h1 h2 h3
theorem CondK_t {N : Nat} {base : List Ob} {x y : LC} {k : List LI} {post : Env → List Ob → Prop} : CondK P N base (.bool true) x y k post env σ = Run P N base (.code x :: k) post env σ := by simp [CondK]
theorem CondK_f {N : Nat} {base : List Ob} {x y : LC} {k : List LI} {post : Env → List Ob → Prop} : CondK P N base (.bool false) x y k post env σ = Run P N base (.code y :: k) post env σ := by simp [CondK]
theorem CondK_split {N : Nat} {base : List Ob} {b : Bool} {x y : LC} {k : List LI} {post : Env → List Ob → Prop} (h1 : b = true → CondK P N base (.bool true) x y k post env σ) (h2 : b = false → CondK P N base (.bool false) x y k post env σ) :
  CondK P N base (.bool b) x y k post env σ := by
 cases b
 ·exact h2 rfl
 ·exact h1 rfl
end
end Go.Vi
