import Derived.Test.YtggchhmgeafoaaaVi10c
set_option linter.unusedVariables false
set_option linter.unusedSimpArgs false
set_option linter.unnecessarySimpa false
namespace Go.Vi
open Go Go.RowKit
def lowFld (P : Program) (t : TypeId) (f : Nat) : Option Field :=
 match P.underlying t with
 | some (.struct fs) => fs[f]?
 | _ => none
def lowElem (P : Program) (t : TypeId) : Option TypeInfo :=
 match P.underlying t with
 | some (.slice e) => P.info? e
 | _ => none
def lowCall (P : Program) (c : Call) : Option LK :=
 match c.callee, c.args.toList with
 | .builtin .len, [x] => match c.argTypes[0]? with
  | some t => match P.underlying t, loOf x with
   | some .string, some l => some (.len true l)
   | some (.slice _), some l => some (.len false l)
   | _, _ => none
  | none => none
 | .builtin .append, [s, x] => match c.argTypes.toList with
  | [t, t'] => match lowElem P t, loOf s, loOf x with
    | some inf, some ls, some lx => match inf.zero with
     | some z => if z.cells.size = inf.size then match P.underlying t' with
       | some (.int _) => (ofVals z.cells.toList).map fun zs => .appz inf.size inf.bytes zs ls lx
       | some _ => some (.app inf.size inf.bytes ls lx)
       | none => none
      else none
     | none => none
    | _, _, _ => none
  | _ => none
 | .builtin .copy, [s, x] => match c.argTypes[0]? with
  | some t => match lowElem P t, loOf s, loOf x with
   | some inf, some ls, some lx => if 0 < inf.size then some (.copy inf.size ls lx) else none
   | _, _, _ => none
  | none => none
 | .builtin .clear, [x] => match c.argTypes[0]? with
  | some t => match lowElem P t, loOf x with
   | some inf, some lx => match inf.zero with
    | some z => (ofVals z.cells.toList).map fun zs => .clear zs lx
    | none => none
   | _, _ => none
  | none => none
 | .builtin .cap, [x] => match c.argTypes[0]? with
  | some t => match lowElem P t, loOf x with
   | some _, some lx => some (.cap lx)
   | _, _ => none
  | none => none
 | .builtin .max, [x, y] => match loOf x, loOf y with
  | some l, some m => some (.mx l m)
  | _, _ => none
 | .builtin .min, [x, y] => match loOf x, loOf y with
  | some l, some m => some (.mn l m)
  | _, _ => none
 | .value f, xs => match ovlB P f with
  | true => match xs with
   | [x, y] => match loOf x, loOf y with
    | some l, some m => some (.ovl l m)
    | _, _ => none
   | _ => none
  | false => match loOf f, losOf xs with
   | some l, some ls => some (.call l ls)
   | _, _ => none
 | _, _ => none
def lowOp (P : Program) (o : Oper) : Option LK :=
 match o.op with
 | .move x | .assign x => (loOf x).map .mov
 | .pick c x y => match loOf c, loOf x, loOf y with
  | some lc, some lx, some ly => some (.pick lc lx ly)
  | _, _, _ => none
 | .load t x => match lowAg P t, loOf x with
  | some ag, some l => some (.load ag l)
  | _, _ => none
 | .store t x y => match P.info? t, loOf x, loOf y with
  | some inf, some l, some m => some (.store inf.size l m)
  | _, _, _ => none
 | .nilCheck x => (loOf x).map .chk
 | .unOp op _ x => (loOf x).map (.un op)
 | .binOp op t x y _ => match loOf x, loOf y with
  | some l, some m => match op, lowET P t with
   | .eql, some et => some (.eq et false l m)
   | .neq, some et => some (.eq et true l m)
   | _, _ => some (.bin op l m)
  | _, _ => none
 | .fieldAddr t x f => match lowFld P t f, loOf x with
  | some fd, some l => match P.info? fd.type with
   | some i => if i.size = 0 then none else some (.faddr fd.offset l)
   | none => none
  | _, _ => none
 | .field t x f => match lowFld P t f, loOf x with
  | some fd, some l => match lowAg P fd.type with
   | some ag => some (.fld fd.offset ag l)
   | none => none
  | _, _ => none
 | .extract x i => (loOf x).map (.ext i)
 | .convert s t x => match P.underlying s, P.underlying t, loOf x with
  | some _, some (.int k), some l => some (.conv k l)
  | some (.slice e), some .string, some l => match P.underlying e with
   | some (.int .u8) => some (.b2s l)
   | _ => none
  | some _, some .string, some l => some (.same l)
  | _, _, _ => none
 | .makeFunc (.func f) first caps => if first.toList.isEmpty then (if f < bB then (losOf caps.toList).map (.mkfn f) else none) else if caps.toList.isEmpty then (losOf first.toList).map (.mkfn (f + bB)) else none
 | .slice t x lo hi none => match P.underlying t, loOf x, loOpt lo, loOpt hi with
  | some .string, some l, some a, some b => some (.slice true 1 l a b)
  | some (.slice e), some l, some a, some b => match P.info? e with
   | some inf => some (.slice false inf.size l a b)
   | none => none
  | _, _, _, _ => none
 | .slice t x lo (some h) (some m) => match lowElem P t, loOf x, loOpt lo, loOf h, loOf m with
  | some inf, some l, some a, some b, some c => some (.slice3 inf.size l a b c)
  | _, _, _, _, _ => none
 | .makeSlice t x y => match lowElem P t, loOf x, loOf y with
  | some inf, some l, some m => match inf.zero with
   | some z => if z.cells.size = inf.size then (ofVals z.cells.toList).map fun zs => .mks zs inf.bytes l m else none
   | none => none
  | _, _, _ => none
 | .index t x i => match P.underlying t, loOf x, loOf i with
  | some .string, some l, some m => some (.idx l m)
  | _, _, _ => none
 | .indexAddr t x i => match lowElem P t, loOf x, loOf i with
  | some inf, some l, some m => some (.iaddr inf.size l m)
  | _, _, _ => none
 | .alloc t => match P.info? t with
  | some inf => match inf.zero with
   | some z => (ofVals z.cells.toList).map .alloc
   | none => none
  | none => none
 | .box _ x => (loOf x).map .box
 | .build t parts => match P.underlying t, P.info? t with
  | some (.struct fs), some inf => match inf.zero with
   | some z => match ofVals z.cells.toList, lowParts P fs parts.toList with
    | some zs, some qs => if fs.toList.all (fun f => (P.info? f.type).isSome) = true then some (.build zs qs) else none
    | _, _ => none
   | none => none
  | _, _ => none
 | .buildSlice t n parts => match lowElem P t, lowSlit 0 parts.toList with
  | some inf, some ls => if n * inf.size ≤ 16777216 ∧ parts.toList.length = n ∧ inf.zero.isSome = true then some (.slit inf.size ls) else none
  | _, _ => none
 | .call c => lowCall P c
 | _ => none
theorem lowFld_spec {P : Program} {t : TypeId} {f : Nat} {fd : Field} (h : lowFld P t f = some fd) : ∃ fs, P.underlying t = some (.struct fs) ∧ fs[f]? = some fd := by
 unfold lowFld at h
 split at h
 ·rename_i fs hu; exact ⟨fs, hu, h⟩
 ·cases h
theorem lowElem_spec {P : Program} {t : TypeId} {inf : TypeInfo} (h : lowElem P t = some inf) : ∃ e, P.underlying t = some (.slice e) ∧ P.info? e = some inf := by
 unfold lowElem at h
 split at h
 ·rename_i e hu; exact ⟨e, hu, h⟩
 ·cases h
theorem sound_call {P : Program} {o : Oper} {c : Call} {k : LK} (ho : o.op = .call c) (h : lowCall P c = some k) (hk : ∀ f args, k ≠ .call f args) : Sound P o k := by
 unfold lowCall at h
 split at h
 ·rename_i x hc hargs
  split at h
  ·rename_i t ht
   split at h
   ·rename_i l hu hx; cases h; exact sound_len ho hc hargs ht (by rw [hu]) hx
   ·rename_i e l hu hx; cases h; exact sound_len ho hc hargs ht (by rw [hu]) hx
   ·cases h
  ·cases h
 ·rename_i s x hc hargs
  split at h
  ·rename_i t t' hts
   have hts' : c.argTypes = #[t, t'] := by apply Array.ext'; simpa using hts
   split at h
   ·rename_i inf ls lx he hs hx
    obtain ⟨e, hu, hinf⟩ := lowElem_spec he
    split at h
    ·rename_i z hz
     split at h
     ·rename_i hzs
      split at h
      ·rename_i kk hu'
       simp only [Option.map_eq_some_iff] at h
       obtain ⟨zs, hzd, rfl⟩ := h
       exact sound_appz ho hc hargs hts' hu hu' hinf hz hzs hzd hs hx
      ·rename_i d hnint hu'
       cases h
       exact sound_app ho hc hargs hts' hu ⟨d, hu', fun k hk => by subst hk; exact hnint k rfl⟩ hinf hz hzs hs hx
      ·cases h
     ·cases h
    ·cases h
   ·cases h
  ·cases h
 ·rename_i s x hc hargs
  split at h
  ·rename_i t ht
   split at h
   ·rename_i inf ls lx he hs hx
    obtain ⟨e, hu, hinf⟩ := lowElem_spec he
    split at h
    ·rename_i hpos; cases h; exact sound_copy ho hc hargs ht hu hinf hpos hs hx
    ·cases h
   ·cases h
  ·cases h
 ·rename_i x hc hargs
  split at h
  ·rename_i t ht
   split at h
   ·rename_i inf lx he hx
    obtain ⟨e, hu, hinf⟩ := lowElem_spec he
    split at h
    ·rename_i z hz
     simp only [Option.map_eq_some_iff] at h
     obtain ⟨zs, hzd, rfl⟩ := h
     exact sound_clear ho hc hargs ht hu hinf hz hzd hx
    ·cases h
   ·cases h
  ·cases h
 ·rename_i x hc hargs
  split at h
  ·rename_i t ht
   split at h
   ·rename_i inf lx he hx
    obtain ⟨e, hu, hinf⟩ := lowElem_spec he
    cases h
    exact sound_cap ho hc hargs ht hu hx
   ·cases h
  ·cases h
 ·rename_i x y hc hargs
  split at h
  ·rename_i l m hx hy; cases h; exact sound_mx ho hc hargs hx hy
  ·cases h
 ·rename_i x y hc hargs
  split at h
  ·rename_i l m hx hy; cases h; exact sound_mn ho hc hargs hx hy
  ·cases h
 ·rename_i f xs hc
  split at h
  ·rename_i hov
   split at h
   ·rename_i x y hargs
    split at h
    ·rename_i l m hx hy; cases h; exact sound_ovl ho hc (by assumption) hov hx hy
    ·cases h
   ·cases h
  ·split at h
   ·cases h; exact absurd rfl (hk _ _)
   ·cases h
 ·cases h
theorem sound_op {P : Program} {o : Oper} {k : LK} (h : lowOp P o = some k) (hk : ∀ f args, k ≠ .call f args) : Sound P o k := by
 unfold lowOp at h
 split at h
 ·rename_i x ho
  simp only [Option.map_eq_some_iff] at h
  obtain ⟨l, hl, rfl⟩ := h
  exact sound_move ho hl
 ·rename_i x ho
  simp only [Option.map_eq_some_iff] at h
  obtain ⟨l, hl, rfl⟩ := h
  exact sound_assign ho hl
 ·rename_i c x y ho
  split at h
  ·rename_i lc lx ly h1 h2 h3; cases h; exact sound_pick ho h1 h2 h3
  ·cases h
 ·rename_i t x ho
  split at h
  ·rename_i ag l h1 h2; cases h; exact sound_load ho h1 h2
  ·cases h
 ·rename_i t x y ho
  split at h
  ·rename_i inf l m h1 h2 h3; cases h; exact sound_store ho h1 h2 h3
  ·cases h
 ·rename_i x ho
  simp only [Option.map_eq_some_iff] at h
  obtain ⟨l, hl, rfl⟩ := h
  exact sound_chk ho hl
 ·rename_i op t x ho
  simp only [Option.map_eq_some_iff] at h
  obtain ⟨l, hl, rfl⟩ := h
  exact sound_un ho hl
 ·rename_i op t x y u ho
  split at h
  ·rename_i l m h1 h2
   split at h
   ·rename_i et h3; cases h; exact sound_eq (by simp) ho h3 h1 h2
   ·rename_i et h3; cases h; exact sound_eq (by simp) ho h3 h1 h2
   ·cases h; exact sound_bin ho h1 h2
  ·cases h
 ·rename_i t x f ho
  split at h
  ·rename_i fd l h1 h2
   split at h
   ·rename_i inf h3
    split at h
    ·cases h
    ·rename_i h4
     cases h
     obtain ⟨fs, hu, hf⟩ := lowFld_spec h1
     exact sound_faddr ho hu hf h3 h4 h2
   ·cases h
  ·cases h
 ·rename_i t x f ho
  split at h
  ·rename_i fd l h1 h2
   split at h
   ·rename_i ag h3
    cases h
    obtain ⟨fs, hu, hf⟩ := lowFld_spec h1
    exact sound_fld ho hu hf h3 h2
   ·cases h
  ·cases h
 ·rename_i x i ho
  simp only [Option.map_eq_some_iff] at h
  obtain ⟨l, hl, rfl⟩ := h
  exact sound_ext ho hl
 ·rename_i s t x ho
  split at h
  ·rename_i sd k l h1 h2 h3; cases h; exact sound_conv ho h1 h2 h3
  ·rename_i e l h1 h2 h3
   split at h
   ·rename_i h4; cases h; exact sound_b2s ho h1 h4 h2 h3
   ·cases h
  ·cases h; exact sound_same ho (by assumption) (by assumption) (by assumption)
  ·cases h
 ·rename_i f first caps ho
  split at h
  ·rename_i h1
   split at h
   case isFalse => cases h
   rename_i h2
   simp only [Option.map_eq_some_iff] at h
   obtain ⟨ls, hl, rfl⟩ := h
   have : first = #[] := by apply Array.ext'; simpa using h1
   subst this
   exact sound_mkfn h2 ho hl
  ·split at h
   ·rename_i h1
    simp only [Option.map_eq_some_iff] at h
    obtain ⟨ls, hl, rfl⟩ := h
    have : caps = #[] := by apply Array.ext'; simpa using h1
    subst this
    exact sound_mkfnb ho hl
   ·cases h
 ·rename_i t x lo hi ho
  split at h
  ·rename_i l a b h1 h2 h3 h4; cases h; exact sound_slice_str ho h1 h2 h3 h4
  ·rename_i e l a b h1 h2 h3 h4
   split at h
   ·rename_i inf h5; cases h; exact sound_slice ho h1 h5 h2 h3 h4
   ·cases h
  ·cases h
 ·rename_i t x lo hh mm ho
  split at h
  ·rename_i inf l a b c h1 h2 h3 h4 h5
   cases h
   obtain ⟨e, hu, hinf⟩ := lowElem_spec h1
   exact sound_slice3 ho hu hinf h2 h3 h4 h5
  ·cases h
 ·rename_i t x y ho
  split at h
  ·rename_i inf l m h1 h2 h3
   obtain ⟨e, hu, hinf⟩ := lowElem_spec h1
   split at h
   ·rename_i z hz
    split at h
    ·rename_i hzs
     simp only [Option.map_eq_some_iff] at h
     obtain ⟨zs, hzd, rfl⟩ := h
     exact sound_mks ho hu hinf hz hzs hzd h2 h3
    ·cases h
   ·cases h
  ·cases h
 ·rename_i t x i ho
  split at h
  ·rename_i l m h1 h2 h3; cases h; exact sound_idx ho h1 h2 h3
  ·cases h
 ·rename_i t x i ho
  split at h
  ·rename_i inf l m h1 h2 h3
   cases h
   obtain ⟨e, hu, hinf⟩ := lowElem_spec h1
   exact sound_iaddr ho hu hinf h2 h3
  ·cases h
 ·rename_i t ho
  split at h
  ·rename_i inf h1
   split at h
   ·rename_i z h2
    simp only [Option.map_eq_some_iff] at h
    obtain ⟨zs, hz, rfl⟩ := h
    exact sound_alloc ho h1 h2 hz
   ·cases h
  ·cases h
 ·rename_i t x ho
  simp only [Option.map_eq_some_iff] at h
  obtain ⟨l, hl, rfl⟩ := h
  exact sound_box ho hl
 ·rename_i t parts ho
  split at h
  ·rename_i fs inf h1 h2
   split at h
   ·rename_i z h3
    split at h
    ·rename_i zs qs h4 h5
     split at h
     ·rename_i h6; cases h; exact sound_build ho h1 h2 h3 h4 h6 h5
     ·cases h
    ·cases h
   ·cases h
  ·cases h
 ·rename_i t n parts ho
  split at h
  ·rename_i inf ls h1 h2
   split at h
   ·rename_i h3
    cases h
    obtain ⟨e, hu, hinf⟩ := lowElem_spec h1
    obtain ⟨z, hz⟩ := Option.isSome_iff_exists.1 h3.2.2
    exact sound_slit ho hu hinf hz h3.1 h3.2.1 h2
   ·cases h
  ·cases h
 ·rename_i c ho
  exact sound_call ho h hk
 ·cases h
end Go.Vi
