/-
  Vi20: objects that are no longer needed are forgotten; those that stay are counted anew. Own work, over any program.
-/
import Derived.Test.YtefpjijokdplfaaVi19
set_option linter.unusedVariables false
set_option linter.unusedSimpArgs false
namespace Go.Vi
open Go Go.RowKit

mutual
/-- The old number of what a datum names, by the row of the old numbers. -/
def D.ren (q : List Nat) : D → D
  | .ptr l j i n => .ptr (q.getD l 0) j i n
  | .own l n z => .own (q.getD l 0) n z
  | .agg cs => .agg (D.renL q cs)
  | .tup cs => .tup (D.renL q cs)
  | .fn f cs => .fn f (D.renL q cs)
  | d => d
def D.renL (q : List Nat) : List D → List D
  | [] => []
  | d :: ds => D.ren q d :: D.renL q ds
end
mutual
/-- All that is named is there. -/
def D.fit (m : Nat) : D → Bool
  | .ptr l _ _ _ => decide (l < m)
  | .own l _ _ => decide (l < m)
  | .agg cs => D.fitL m cs
  | .tup cs => D.fitL m cs
  | .fn _ cs => D.fitL m cs
  | _ => true
def D.fitL (m : Nat) : List D → Bool
  | [] => true
  | d :: ds => D.fit m d && D.fitL m ds
end

theorem renL_map {q : List Nat} : ∀ {ds : List D}, D.renL q ds = ds.map (D.ren q)
  | [] => by simp [D.renL]
  | d :: ds => by simp [D.renL, renL_map]
theorem fitL_all {m : Nat} : ∀ {ds : List D}, D.fitL m ds = ds.all (D.fit m)
  | [] => by simp [D.fitL]
  | d :: ds => by simp [D.fitL, fitL_all]

theorem ren_pt1 {q : List Nat} {d : D} (h : d.pt1 = true) : d.ren q = d := by
  cases d <;> simp_all [D.ren, D.pt1, D.renL]
theorem fit_pt1 {m : Nat} {d : D} (h : d.pt1 = true) : d.fit m = true := by
  cases d <;> simp_all [D.fit, D.pt1, D.fitL]
theorem renL_pt {q : List Nat} : ∀ {ds : List D}, ds.all D.pt1 = true → D.renL q ds = ds
  | [], _ => by simp [D.renL]
  | d :: ds, h => by
    simp only [List.all_cons, Bool.and_eq_true] at h
    simp [D.renL, ren_pt1 h.1, renL_pt h.2]

theorem PRep.ren {G : Nat → Prop} {w : World} {e : D} {v : Value} (h : PRep G w e v) : ∀ (q : List Nat) (d : D), d.ren q = e → PRep G w d v := by
  induction h with
  | list nl tg rows A cap sz vf h1 h2 h3 h4 h5 h9 h6 h7 h8 ih =>
    intro q d hd
    cases d <;> simp only [D.ren] at hd <;> first | cases hd | skip
    exact .list _ _ _ A cap sz vf h1 h2 h3 h4 h5 h9 h6 h7 h8
  | agg cs vs h h' ih =>
    intro q d hd
    cases d <;> simp only [D.ren] at hd <;> first | cases hd | skip
    rename_i ds
    rw [renL_map] at h h' ih
    refine .agg ds vs (by simpa using h) fun i d v hi hv => ih i (d.ren q) v (by simp [hi]) hv q d rfl
  | tup cs vs h h' ih =>
    intro q d hd
    cases d <;> simp only [D.ren] at hd <;> first | cases hd | skip
    rename_i ds
    rw [renL_map] at h h' ih
    refine .tup ds vs (by simpa using h) fun i d v hi hv => ih i (d.ren q) v (by simp [hi]) hv q d rfl
  | elt row i ad vf h6 h7 h8 ih =>
    intro q d hd
    cases d <;> simp only [D.ren] at hd <;> first | cases hd | skip
    exact .elt _ _ ad vf h6 h7 h8
  | fn f =>
    intro q d hd
    cases d <;> simp only [D.ren] at hd <;> first | (cases hd; done) | skip
    simp only [D.fn.injEq, renL_map, List.map_eq_nil_iff] at hd
    obtain ⟨rfl, rfl⟩ := hd
    exact .fn _
  | _ =>
    intro q d hd
    cases d <;> simp only [D.ren] at hd <;> first | cases hd | skip
    constructor

/-- What stays of the objects. -/
def GcOK (q : List Nat) (σ σ' : List Ob) : Prop := q.map (fun l => σ[l]?) = σ'.map (fun o => some { o with rows := o.rows.map (D.renL q) }) ∧ ∀ o ∈ σ', ∀ r ∈ o.rows, D.fitL q.length r = true

theorem GcOK.at {q : List Nat} {σ σ' : List Ob} (h : GcOK q σ σ') {l : Nat} {o : Ob} (ho : σ'[l]? = some o) : ∃ l', q[l]? = some l' ∧ σ[l']? = some { o with rows := o.rows.map (D.renL q) } := by
  have h1 := congrArg (·[l]?) h.1
  simp only [List.getElem?_map, ho, Option.map_some, Option.map_eq_some_iff] at h1
  obtain ⟨l', hl, h2⟩ := h1
  exact ⟨l', hl, h2⟩

section
variable {base : List Ob} {env env' : Env} {σ σ' : List Ob} {q : List Nat}

def Ctx.gc (C : Ctx) (q : List Nat) (σ' : List Ob) : Ctx := ⟨C.F, σ', q.map (fun l => C.bs.getD l 0), C.w⟩

theorem gc_ob {C : Ctx} (hi : Inv C) (hg : GcOK q C.σ σ') {l : Nat} {o : Ob} {b : Nat} (ho : (C.gc q σ').σ[l]? = some o) (hb : (C.gc q σ').bs[l]? = some b) :
    ∃ l', q[l]? = some l' ∧ C.σ[l']? = some { o with rows := o.rows.map (D.renL q) } ∧ C.bs[l']? = some b := by
  obtain ⟨l', h1, h2⟩ := hg.at ho
  refine ⟨l', h1, h2, ?_⟩
  have hlt : l' < C.bs.length := by rw [hi.len]; exact (List.getElem?_eq_some_iff.1 h2).1
  simp only [Ctx.gc, List.getElem?_map, h1, Option.map_some, Option.some.injEq] at hb
  rw [List.getElem?_eq_getElem hlt]
  simp only [List.getD_eq_getElem?_getD, List.getElem?_eq_getElem hlt, Option.getD_some] at hb
  rw [hb]

theorem gc_owned {C : Ctx} (hi : Inv C) (hg : GcOK q C.σ σ') {b : Nat} (h : (C.gc q σ').owned b) : C.owned b := by
  obtain ⟨l, o, h1, h2, h3, h4⟩ := h
  obtain ⟨l', k1, k2, k3⟩ := gc_ob hi hg h1 h4
  exact ⟨l', _, k2, h2, h3, k3⟩

theorem gc_rep {C : Ctx} (hi : Inv C) (hg : GcOK q C.σ σ') {e : D} {v : Value} (h : Rep C e v) : ∀ d : D, d.ren q = e → d.fit q.length = true → Rep (C.gc q σ') d v := by
  have hlen : q.length = σ'.length := by have := congrArg List.length hg.1; simpa using this
  have pick : ∀ {l : Nat}, l < q.length → ∃ o', σ'[l]? = some o' ∧ C.σ[q.getD l 0]? = some { o' with rows := o'.rows.map (D.renL q) } ∧ ∀ b, C.bs[q.getD l 0]? = some b → (C.gc q σ').bs[l]? = some b := by
    intro l hl
    have ho := List.getElem?_eq_getElem (l := σ') (i := l) (by omega)
    obtain ⟨l', h1, h2⟩ := hg.at ho
    have : q.getD l 0 = l' := by simp [List.getD_eq_getElem?_getD, h1]
    rw [this]
    refine ⟨_, ho, h2, fun b hb => ?_⟩
    simp [Ctx.gc, h1, hb]
  induction h with
  | pure h =>
    intro d hd hf
    exact .pure ((h.ren q d hd).mono (fun b hb => ⟨hb.1, hb.2.1, fun ho => hb.2.2 (gc_owned hi hg ho)⟩) fun _ _ => rfl)
  | undef v =>
    intro d hd hf
    cases d <;> simp only [D.ren] at hd <;> first | cases hd | skip
    exact .undef v
  | ptr l j i n o b ad ho hb hle hv =>
    intro d hd hf
    cases d <;> simp only [D.ren] at hd <;> first | (cases hd; done) | skip
    simp only [D.ptr.injEq] at hd
    obtain ⟨rfl, rfl, rfl, rfl⟩ := hd
    simp only [D.fit, decide_eq_true_eq] at hf
    obtain ⟨o', h1, h2, h3⟩ := pick hf
    rw [ho] at h2; cases h2
    exact .ptr _ _ _ _ o' b ad h1 (h3 b hb) (by simpa using hle) (by simpa using hv)
  | own l n sz A cap o b ho hb hle hsz hA hr hn =>
    intro d hd hf
    cases d <;> simp only [D.ren] at hd <;> first | (cases hd; done) | skip
    simp only [D.own.injEq] at hd
    obtain ⟨rfl, rfl, rfl⟩ := hd
    simp only [D.fit, decide_eq_true_eq] at hf
    obtain ⟨o', h1, h2, h3⟩ := pick hf
    rw [ho] at h2; cases h2
    exact .own _ _ _ A cap o' b h1 (h3 b hb) (by simpa using hle) hsz hA (by simpa [Ctx.gc] using hr) (by simpa using hn)
  | agg cs vs h h' ih =>
    intro d hd hf
    cases d <;> simp only [D.ren] at hd <;> first | (cases hd; done) | skip
    rename_i ds
    simp only [D.agg.injEq, renL_map] at hd
    subst hd
    simp only [D.fit, fitL_all, List.all_eq_true] at hf
    exact .agg ds vs (by simpa using h) fun i d v hi hv => ih i (d.ren q) v (by simp [hi]) hv d rfl (hf d (List.mem_of_getElem? hi))
  | tup cs vs h h' ih =>
    intro d hd hf
    cases d <;> simp only [D.ren] at hd <;> first | (cases hd; done) | skip
    rename_i ds
    simp only [D.tup.injEq, renL_map] at hd
    subst hd
    simp only [D.fit, fitL_all, List.all_eq_true] at hf
    exact .tup ds vs (by simpa using h) fun i d v hi hv => ih i (d.ren q) v (by simp [hi]) hv d rfl (hf d (List.mem_of_getElem? hi))
  | fn f cs vs h h' ih =>
    intro d hd hf
    cases d <;> simp only [D.ren] at hd <;> first | (cases hd; done) | skip
    rename_i g ds
    simp only [D.fn.injEq, renL_map] at hd
    obtain ⟨rfl, rfl⟩ := hd
    simp only [D.fit, fitL_all, List.all_eq_true] at hf
    exact .fn _ ds vs (by simpa using h) fun i d v hi hv => ih i (d.ren q) v (by simp [hi]) hv d rfl (hf d (List.mem_of_getElem? hi))

theorem ren_one {q : List Nat} {d : D} (h : (d.ren q).one = true) : d.one = true := by
  cases d <;> simp_all [D.ren, D.one]

theorem gc_inv {C : Ctx} (hi : Inv C) (hnd : q.Nodup) (hg : GcOK q C.σ σ') : Inv (C.gc q σ') := by
  have hlen : q.length = σ'.length := by have := congrArg List.length hg.1; simpa using this
  refine ⟨hi.F, by simp [Ctx.gc, hlen], fun l o b ho hb => ?_, fun l l' o o' b ho ho' hr hr' hf hf' hb hb' => ?_⟩
  · obtain ⟨l', h1, h2, h3⟩ := gc_ob hi hg ho hb
    have k := hi.ob l' _ b h2 h3
    refine ⟨fun h => by simpa using k.rows h, fun r hr => ?_, k.pos, fun r hr d hd => ?_, fun hr => ?_, fun hp r hr d hd => ?_, fun hr hf ho' => k.frozen hr hf (gc_owned hi hg ho')⟩
    · have := k.sz (D.renL q r) (List.mem_map.2 ⟨r, hr, rfl⟩)
      simpa [renL_map] using this
    · exact ren_one (k.one (D.renL q r) (List.mem_map.2 ⟨r, hr, rfl⟩) (d.ren q) (by rw [renL_map]; exact List.mem_map.2 ⟨d, hd, rfl⟩))
    · obtain ⟨hF, arr, e, a1, a2, a3⟩ := k.block hr
      refine ⟨hF, arr, e, a1, by simpa using a2, fun j i r d hj hi' => ?_⟩
      obtain ⟨v, hv, hrep⟩ := a3 j i (D.renL q r) (d.ren q) (by simp [hj]) (by simp [renL_map, hi'])
      refine ⟨v, hv, gc_rep hi hg hrep d rfl ?_⟩
      have := hg.2 o (List.mem_of_getElem? ho) r (List.mem_of_getElem? hj)
      rw [fitL_all, List.all_eq_true] at this
      exact this d (List.mem_of_getElem? hi')
    · have := k.pure hp (D.renL q r) (List.mem_map.2 ⟨r, hr, rfl⟩) (d.ren q) (by rw [renL_map]; exact List.mem_map.2 ⟨d, hd, rfl⟩)
      cases d <;> simp_all [D.ren, D.pt1, renL_map]
  · obtain ⟨m, h1, h2, h3⟩ := gc_ob hi hg ho hb
    obtain ⟨m', h1', h2', h3'⟩ := gc_ob hi hg ho' hb'
    have := hi.dis m m' _ _ b h2 h2' hr hr' hf hf' h3 h3'
    subst this
    have e1 := (List.getElem?_eq_some_iff.1 h1)
    have e2 := (List.getElem?_eq_some_iff.1 h1')
    obtain ⟨a1, a2⟩ := e1
    obtain ⟨b1, b2⟩ := e2
    exact (List.getElem_inj hnd).1 (a2.trans b2.symm)

/-- The objects 'q', in this order, stay. -/
theorem Ent_gc (q : List Nat) (hq : ∀ l, l < base.length → q[l]? = some l) (hnd : q.Nodup) (hg : GcOK q σ σ') (he : ∀ p ∈ env', lk env p.1 = p.2.ren q ∧ p.2.fit q.length = true) : Ent base env σ env' σ' := by
  intro C0 C a N h0 hx hσ hst
  subst hσ
  refine ⟨C.gc q σ', rfl, rfl, ?_, gc_inv hst.inv hnd hg, hst.size, hst.defers, fun t => ?_⟩
  · refine ⟨hx.F, hx.os, hx.tape, hx.output, hx.size, fun b hb ho => ⟨(hx.blk b hb ho).1, fun ho' => (hx.blk b hb ho).2 (gc_owned hst.inv hg ho')⟩, fun l o b ho hb => ?_⟩
    obtain ⟨o', b', k1, k2, k3, k4, k5⟩ := hx.ob l o b ho hb
    have hl : l < base.length := by rw [← h0]; exact (List.getElem?_eq_some_iff.1 ho).1
    have hql := hq l hl
    have hlen : q.length = σ'.length := by have := congrArg List.length hg.1; simpa using this
    have hlt : l < σ'.length := by rw [← hlen]; exact (List.getElem?_eq_some_iff.1 hql).1
    have ho' := List.getElem?_eq_getElem hlt
    obtain ⟨l', h1, h2⟩ := hg.at ho'
    rw [hql] at h1; cases h1
    rw [k1] at h2; cases h2
    exact ⟨_, b', ho', by simp [Ctx.gc, hql, k2], k3, by simpa using k4, by simpa [Ctx.gc] using k5⟩
  · rcases lk_mem (e := env') (t := t) with h' | ⟨d, hm, h'⟩
    · rw [h']; exact .undef _
    · rw [h']
      obtain ⟨h1, h2⟩ := he _ hm
      exact gc_rep hst.inv hg (h1 ▸ hst.rep t) d rfl h2

end
end Go.Vi
