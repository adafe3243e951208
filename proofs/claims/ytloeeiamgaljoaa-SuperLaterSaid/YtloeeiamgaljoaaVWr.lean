/- What writes: new blocks, stores, rows that grow. The world goes on, and what is known of it with it. -/
import Derived.Test.YtloeeiamgaljoaaVEv
namespace Go.Val
open Go.RowKit
set_option linter.unusedSimpArgs false
set_option linter.unusedVariables false

/-- Only this block has been written. -/
structure Wr (g : Nat) (w w' : World) : Prop where
  os : w'.os = w.os
  tape : w'.tape = w.tape
  output : w'.output = w.output
  size : w'.heap.size = w.heap.size
  other : ∀ k, k ≠ g → w'.heap[k]? = w.heap[k]?
theorem Wr.refl (g : Nat) (w : World) : Wr g w w := ⟨rfl, rfl, rfl, rfl, fun _ _ => rfl⟩
theorem Wr.trans {g : Nat} {a b c : World} (h : Wr g a b) (k : Wr g b c) : Wr g a c :=
  ⟨k.os.trans h.os, k.tape.trans h.tape, k.output.trans h.output, k.size.trans h.size, fun i hi => (k.other i hi).trans (h.other i hi)⟩

theorem setCell_blk {w : World} {g o : Nat} {cur : Array Value} {e : TypeId} {fr : Nat × Nat} (v : Value) (h : w.heap[g]? = some (.cells cur e fr)) :
    (w.setCell ⟨g, o, none⟩ v).heap[g]? = some (.cells (cur.setIfInBounds o v) e fr) ∧ Wr g w (w.setCell ⟨g, o, none⟩ v) := by
  refine ⟨?_, rfl, rfl, rfl, by simp [World.setCell], fun k hk => Below.heap_setCell w _ v k hk⟩
  simp [World.setCell, Array.getElem?_modify, h]

theorem run_storeCells_blk (P : Program) (g o : Nat) (e : TypeId) (fr : Nat × Nat) : ∀ (vs : List Value) (i : Nat) (cur : Array Value) (w : World), w.heap[g]? = some (.cells cur e fr) → o + i + vs.length ≤ cur.size →
    NoFr fr cur.size → (∀ v ∈ vs, v.oneCell' = true) → ∃ w', (storeCells ⟨g, o, none⟩ vs i).run P w = .ok () w' ∧ Wr g w w' ∧ w'.heap[g]? = some (.cells (over cur.toList (o + i) vs).toArray e fr)
  | [], i, cur, w, hg, hl, hf, h1 => ⟨w, rfl, Wr.refl _ _, by simpa [over] using hg⟩
  | v :: rest, i, cur, w, hg, hl, hf, h1 => by
    have hi : o + i < cur.size := by simp at hl; omega
    have hcell : w.cell? ⟨g, o + i, none⟩ = some cur[o + i] := by simp [World.cell?, hg, hi]
    have hfro : w.frozen? ⟨g, o + i, none⟩ = false := by
      have := hf (o + i) hi
      simp only [World.frozen?, hg]
      simp only [Bool.and_eq_false_iff, decide_eq_false_iff_not]
      omega
    have hst : (store ((⟨g, o, none⟩ : Addr).add i) v).run P w = .ok () (w.setCell ⟨g, o + i, none⟩ v) := by
      rw [Addr_add, run_store P w _ v _ (h1 v (by simp)), hcell]
      simp [hfro]
    obtain ⟨h2, h3⟩ := setCell_blk (o := o + i) v hg
    obtain ⟨w', e1, e2, e3⟩ := run_storeCells_blk P g o e fr rest (i + 1) _ (w.setCell ⟨g, o + i, none⟩ v) h2 (by simp at hl ⊢; omega) (by simpa using hf) (fun x hx => h1 x (by simp [hx]))
    refine ⟨w', ?_, h3.trans e2, ?_⟩
    · simp only [storeCells, Sem.run_bind, hst, Result.andThen_ok, e1]
    · rw [e3]
      congr 3
      have := foldl_over (o + i) (v :: rest) 0 cur (by simpa using hl)
      simp only [over, Array.toList_setIfInBounds, List.length_cons]
      have h1' : (cur.toList.set (o + i) v).take (o + (i + 1)) = cur.toList.take (o + i) ++ [v] := by
        rw [show o + (i + 1) = o + i + 1 by omega, List.take_succ_eq_append_getElem (by simp; omega)]
        simp [List.take_set_of_le]
      have h2' : (cur.toList.set (o + i) v).drop (o + (i + 1) + rest.length) = cur.toList.drop (o + i + (rest.length + 1)) := by
        rw [List.drop_set_of_lt (by omega)]
        congr 1
        omega
      rw [h1', h2']
      simp

section
variable {w0 : World} {G G' : Gh} {σ σ' : Store} {w w' : World}

theorem RowRel.keep {id : Nat} {R : Row} (h : RowRel G σ w id R) (hx : Ext G σ w G' σ' w') (hv : G'.rowV id = G.rowV id) (hk : ∀ k, G.own k = .row id → G'.own k = .row id ∧ w'.heap[k]? = w.heap[k]?) : RowRel G' σ' w' id R := by
  obtain ⟨h0, h1, A, n, c, hA, hn, hc, hr⟩ := h
  refine ⟨h0, h1, A, n, c, hv.trans hA, hn, hc, ?_⟩
  rcases hr with h | ⟨g, arr, fr, h2, h3, h4, h5, h6, h7⟩
  · exact .inl h
  · obtain ⟨a, b⟩ := hk g h3
    exact .inr ⟨g, arr, fr, h2, a, b.trans h4, h5, h6, fun i d v hd hv => (h7 i d v hd hv).ext hx⟩
theorem BoxRel.keep {id : Nat} {B : Box} (h : BoxRel G σ w id B) (hx : Ext G σ w G' σ' w') (hv : G'.boxB id = G.boxB id) (hk : ∀ k, G.own k = .box id → G'.own k = .box id ∧ w'.heap[k]? = w.heap[k]?) : BoxRel G' σ' w' id B := by
  obtain ⟨h0, arr, h1, h2⟩ := h
  obtain ⟨a, b⟩ := hk _ h0
  exact ⟨by rw [hv]; exact a, arr, by rw [hv]; exact b.trans h1, h2.ext hx⟩
theorem MapRel.keep {id : Nat} {M : List (DV × DV)} (h : MapRel G σ w id M) (hx : Ext G σ w G' σ' w') (hv : G'.mapB id = G.mapB id) (hk : ∀ k, G.own k = .map id → G'.own k = .map id ∧ w'.heap[k]? = w.heap[k]?) : MapRel G' σ' w' id M := by
  obtain ⟨h0, h⟩ := h
  obtain ⟨a, b⟩ := hk _ h0
  refine ⟨by rw [hv]; exact a, h.imp ?_ ?_⟩
  · rintro ⟨g0, es, clock, h1, h2, h3, h4, h5⟩
    exact ⟨g0, es, clock, by rw [hv]; exact b.trans h1, h2, fun i e m he hm => ⟨(h3 i e m he hm).1.ext hx, (h3 i e m he hm).2.ext hx⟩, h4, h5⟩
  · rintro ⟨ks, vs, is, k, es, clock, since, last, seen, h1, h2, h3, h4, h5⟩
    refine ⟨ks, vs, is, k, es, clock, since, last, seen, h1, h2.ext hx, ?_, by rw [hv]; exact b.trans h4, h5⟩
    cases h2 with
    | cm _ _ _ _ _ him hh => rw [(hx.imm k him).2]; exact h3

def updN {α : Type} (f : Nat → α) (k : Nat) (v : α) : Nat → α := fun i => if i = k then v else f i
@[simp] theorem updN_same {α : Type} (f : Nat → α) (k : Nat) (v : α) : updN f k v k = v := by simp [updN]
theorem updN_ne {α : Type} (f : Nat → α) {k i : Nat} (v : α) (h : i ≠ k) : updN f k v i = f i := by simp [updN, h]

/-- A draw. -/
theorem StoreRel.drew (h : StoreRel w0 G σ w) : StoreRel w0 G σ w.drew ∧ Ext G σ w G σ w.drew := by
  have hx : Ext G σ w G σ w.drew := ⟨fun _ h => ⟨h, rfl⟩, Nat.le_refl _, Nat.le_refl _, Nat.le_refl _, fun _ R _ h => ⟨R, h, rfl, Nat.le_refl _, fun _ => rfl⟩, fun _ _ => rfl, fun _ _ => rfl⟩
  exact ⟨⟨h.below.drew, h.lt, h.trk, fun id R hR => (h.rows id R hR).keep hx rfl (fun _ h => ⟨h, rfl⟩), fun id B hB => (h.boxes id B hB).keep hx rfl (fun _ h => ⟨h, rfl⟩), fun id M hM => (h.maps id M hM).keep hx rfl (fun _ h => ⟨h, rfl⟩)⟩, hx⟩

/-- A new block with a label. -/
theorem StoreRel.new (h : StoreRel w0 G σ w) (o : Obj) (ω : Owner) (hω : ω ≠ .imm) :
    StoreRel w0 { G with own := updN G.own w.heap.size ω } σ (w.alloc o) ∧ Ext G σ w { G with own := updN G.own w.heap.size ω } σ (w.alloc o) := by
  have hfree : ∀ k, w.heap.size ≤ k → G.own k = .free := fun k hk => by
    cases hq : G.own k with
    | free => rfl
    | _ => have := h.lt k (by rw [hq]; simp); omega
  have hne : ∀ k, G.own k ≠ .free → k ≠ w.heap.size := fun k hk => by have := h.lt k hk; omega
  have hold : ∀ k ω', G.own k = ω' → ω' ≠ .free → updN G.own w.heap.size ω k = ω' ∧ (w.alloc o).heap[k]? = w.heap[k]? := fun k ω' hk hf => by
    have hlt := h.lt k (by rw [hk]; exact hf)
    exact ⟨by rw [updN_ne _ _ (by omega)]; exact hk, Below.heap_alloc _ _ _ hlt⟩
  have hx : Ext G σ w { G with own := updN G.own w.heap.size ω } σ (w.alloc o) :=
    ⟨fun k hk => hold k _ hk (by simp), Nat.le_refl _, Nat.le_refl _, Nat.le_refl _, fun _ R _ h => ⟨R, h, rfl, Nat.le_refl _, fun _ => rfl⟩, fun _ _ => rfl, fun _ _ => rfl⟩
  refine ⟨⟨h.below.alloc h.below.size o, fun k hk => ?_, fun k hk hi => ?_, fun id R hR => (h.rows id R hR).keep hx rfl (fun k hk => hold k _ hk (by simp)), fun id B hB => (h.boxes id B hB).keep hx rfl (fun k hk => hold k _ hk (by simp)), fun id M hM => (h.maps id M hM).keep hx rfl (fun k hk => hold k _ hk (by simp))⟩, hx⟩
  · simp only [World.size_alloc]
    by_cases e : k = w.heap.size
    · omega
    · simp only [updN_ne _ _ e] at hk
      have := h.lt k hk
      omega
  · by_cases e : k = w.heap.size
    · rw [e]; exact h.below.size
    · simp only [updN_ne _ _ e] at hk hi
      exact h.trk k hk hi

/-- A variable in memory. -/
theorem StoreRel.box (h : StoreRel w0 G σ w) {cs : List DV} {vs : List Value} (hr : RelL G σ w cs vs) (ty : TypeId) :
    ∃ G', StoreRel w0 G' { σ with boxes := σ.boxes ++ [some ⟨ty, cs⟩] } (w.alloc (.cells vs.toArray ty)) ∧ Ext G σ w G' { σ with boxes := σ.boxes ++ [some ⟨ty, cs⟩] } (w.alloc (.cells vs.toArray ty)) ∧ G'.boxB σ.boxes.length = w.heap.size := by
  obtain ⟨h1, x1⟩ := h.new (.cells vs.toArray ty) (.box σ.boxes.length) (by simp)
  have x2 : Ext { G with own := updN G.own w.heap.size (.box σ.boxes.length) } σ (w.alloc (.cells vs.toArray ty))
      { G with own := updN G.own w.heap.size (.box σ.boxes.length), boxB := updN G.boxB σ.boxes.length w.heap.size } { σ with boxes := σ.boxes ++ [some ⟨ty, cs⟩] } (w.alloc (.cells vs.toArray ty)) :=
    ⟨fun _ h => ⟨h, rfl⟩, Nat.le_refl _, by simp, Nat.le_refl _, fun _ R _ h => ⟨R, h, rfl, Nat.le_refl _, fun _ => rfl⟩, fun id hid => by simp only; rw [updN_ne _ _ (by omega)], fun _ _ => rfl⟩
  refine ⟨{ G with own := updN G.own w.heap.size (.box σ.boxes.length), boxB := updN G.boxB σ.boxes.length w.heap.size }, ⟨h1.below, h1.lt, h1.trk, fun id R hR => (h1.rows id R hR).keep x2 rfl (fun _ h => ⟨h, rfl⟩), fun id B hB => ?_, fun id M hM => (h1.maps id M hM).keep x2 rfl (fun _ h => ⟨h, rfl⟩)⟩, x1.trans x2, by simp⟩
  rcases Nat.lt_trichotomy id σ.boxes.length with hlt | rfl | hgt
  · rw [List.getElem?_append_left hlt] at hB
    exact (h1.boxes id B hB).keep x2 (by simp only; rw [updN_ne _ _ (by omega)]) (fun _ h => ⟨h, rfl⟩)
  · simp at hB
    subst hB
    refine ⟨by simp, vs.toArray, ?_, ?_⟩
    · simp only [updN_same]
      exact heap_alloc_new w _
    · have := hr.ext (x1.trans x2)
      simpa using this
  · rw [List.getElem?_eq_none (by simp; omega)] at hB
    simp at hB

/-- A variable written. -/
theorem StoreRel.box_set (h : StoreRel w0 G σ w) {b : Nat} {B : Box} (hb : σ.boxes[b]? = some (some B)) (hw : Wr (G.boxB b) w w') {cs : List DV} {arr : Array Value}
    (hh : w'.heap[G.boxB b]? = some (.cells arr B.ty (0, 0))) (hr : RelL G σ w cs arr.toList) :
    StoreRel w0 G { σ with boxes := σ.boxes.set b (some ⟨B.ty, cs⟩) } w' ∧ Ext G σ w G { σ with boxes := σ.boxes.set b (some ⟨B.ty, cs⟩) } w' := by
  obtain ⟨ho, _⟩ := h.boxes b B hb
  have hne : ∀ k ω, G.own k = ω → ω ≠ .box b → w'.heap[k]? = w.heap[k]? := fun k ω hk hω => hw.other k (fun e => by subst e; rw [ho] at hk; exact hω hk.symm)
  have hx : Ext G σ w G { σ with boxes := σ.boxes.set b (some ⟨B.ty, cs⟩) } w' :=
    ⟨fun k hk => ⟨hk, hne k _ hk (by simp)⟩, Nat.le_refl _, by simp, Nat.le_refl _, fun _ R _ h => ⟨R, h, rfl, Nat.le_refl _, fun _ => rfl⟩, fun _ _ => rfl, fun _ _ => rfl⟩
  refine ⟨⟨?_, fun k hk => by rw [hw.size]; exact h.lt k hk, h.trk, fun id R hR => (h.rows id R hR).keep hx rfl (fun k hk => ⟨hk, hne k _ hk (by simp)⟩), fun id B' hB => ?_, fun id M hM => (h.maps id M hM).keep hx rfl (fun k hk => ⟨hk, hne k _ hk (by simp)⟩)⟩, hx⟩
  · have ht := h.trk (G.boxB b) (by rw [ho]; simp) (by rw [ho]; simp)
    exact h.below.trans ⟨hw.os, hw.tape, hw.output, by rw [hw.size]; exact Nat.le_refl _, fun k hk => hw.other k (by omega)⟩
  · by_cases e : id = b
    · subst e
      rw [List.getElem?_set_self (List.getElem?_eq_some_iff.1 hb).1] at hB
      injection hB with hB; injection hB with hB; subst hB
      exact ⟨ho, arr, hh, hr.ext hx⟩
    · rw [List.getElem?_set_ne (Ne.symm e)] at hB
      exact (h.boxes id B' hB).keep hx rfl (fun k hk => ⟨hk, hne k _ hk (by simp; exact e)⟩)

/-- A new row. -/
theorem StoreRel.row (h : StoreRel w0 G σ w) {xs : List DV} {e : TypeId} {st c : Nat} {arr : Array Value} (h0 : 0 < st) (hst : ∀ x ∈ xs, x.cells.length = st) (hc : xs.length ≤ c) (hsz : arr.size = c * st)
    (hr : ∀ (i : Nat) d v, (flat xs)[i]? = some d → arr[i]? = some v → RelV G σ w d v) {o : Obj} {fr : Nat × Nat} (ho : o = .cells arr e fr) (hf : NoFr fr arr.size) :
    ∃ G', StoreRel w0 G' { σ with rows := σ.rows ++ [some ⟨xs, e, st⟩] } (w.alloc o) ∧ Ext G σ w G' { σ with rows := σ.rows ++ [some ⟨xs, e, st⟩] } (w.alloc o) ∧ G'.rowV σ.rows.length = .slice (some ⟨w.heap.size, 0, none⟩) xs.length c := by
  subst ho
  obtain ⟨h1, x1⟩ := h.new (.cells arr e fr) (.row σ.rows.length) (by simp)
  have x2 : Ext { G with own := updN G.own w.heap.size (.row σ.rows.length) } σ (w.alloc (.cells arr e fr))
      { G with own := updN G.own w.heap.size (.row σ.rows.length), rowV := updN G.rowV σ.rows.length (.slice (some ⟨w.heap.size, 0, none⟩) xs.length c) } { σ with rows := σ.rows ++ [some ⟨xs, e, st⟩] } (w.alloc (.cells arr e fr)) :=
    ⟨fun _ h => ⟨h, rfl⟩, by simp, Nat.le_refl _, Nat.le_refl _, fun id R hid h => by
      rw [List.getElem?_append_left hid] at h
      exact ⟨R, h, rfl, Nat.le_refl _, fun _ => by simp only; rw [updN_ne _ _ (by omega)]⟩, fun _ _ => rfl, fun _ _ => rfl⟩
  refine ⟨{ G with own := updN G.own w.heap.size (.row σ.rows.length), rowV := updN G.rowV σ.rows.length (.slice (some ⟨w.heap.size, 0, none⟩) xs.length c) }, ⟨h1.below, h1.lt, h1.trk, fun id R hR => ?_, fun id B hB => (h1.boxes id B hB).keep x2 rfl (fun _ h => ⟨h, rfl⟩), fun id M hM => (h1.maps id M hM).keep x2 rfl (fun _ h => ⟨h, rfl⟩)⟩, x1.trans x2, by simp⟩
  rcases Nat.lt_trichotomy id σ.rows.length with hlt | rfl | hgt
  · rw [List.getElem?_append_left hlt] at hR
    exact (h1.rows id R hR).keep x2 (by simp only; rw [updN_ne _ _ (by omega)]) (fun _ h => ⟨h, rfl⟩)
  · simp at hR
    subst hR
    refine ⟨h0, hst, some ⟨w.heap.size, 0, none⟩, xs.length, c, by simp, rfl, hc, .inr ⟨w.heap.size, arr, fr, rfl, by simp, heap_alloc_new w _, hf, hsz, fun i d v hd hv => (hr i d v hd hv).ext (x1.trans x2)⟩⟩
  · rw [List.getElem?_eq_none (by simp; omega)] at hR
    simp at hR

/-- A row of nothing, without a block. -/
theorem StoreRel.row0 (h : StoreRel w0 G σ w) {e : TypeId} {st : Nat} (h0 : 0 < st) (A : Option Addr) :
    ∃ G', StoreRel w0 G' { σ with rows := σ.rows ++ [some ⟨[], e, st⟩] } w ∧ Ext G σ w G' { σ with rows := σ.rows ++ [some ⟨[], e, st⟩] } w ∧ G'.rowV σ.rows.length = .slice A 0 0 := by
  have x2 : Ext G σ w { G with rowV := updN G.rowV σ.rows.length (.slice A 0 0) } { σ with rows := σ.rows ++ [some ⟨[], e, st⟩] } w :=
    ⟨fun _ h => ⟨h, rfl⟩, by simp, Nat.le_refl _, Nat.le_refl _, fun id R hid h => by
      rw [List.getElem?_append_left hid] at h
      exact ⟨R, h, rfl, Nat.le_refl _, fun _ => by simp only; rw [updN_ne _ _ (by omega)]⟩, fun _ _ => rfl, fun _ _ => rfl⟩
  refine ⟨{ G with rowV := updN G.rowV σ.rows.length (.slice A 0 0) }, ⟨h.below, h.lt, h.trk, fun id R hR => ?_, fun id B hB => (h.boxes id B hB).keep x2 rfl (fun _ h => ⟨h, rfl⟩), fun id M hM => (h.maps id M hM).keep x2 rfl (fun _ h => ⟨h, rfl⟩)⟩, x2, by simp⟩
  rcases Nat.lt_trichotomy id σ.rows.length with hlt | rfl | hgt
  · rw [List.getElem?_append_left hlt] at hR
    exact (h.rows id R hR).keep x2 (by simp only; rw [updN_ne _ _ (by omega)]) (fun _ h => ⟨h, rfl⟩)
  · simp at hR
    subst hR
    exact ⟨h0, by simp, A, 0, 0, by simp, rfl, Nat.le_refl _, .inl rfl⟩
  · rw [List.getElem?_eq_none (by simp; omega)] at hR
    simp at hR

/-- A row that has been written, or moved: it is longer, or as long. -/
theorem StoreRel.row_set (h : StoreRel w0 G σ w) {id : Nat} {R : Row} (hR : σ.rows[id]? = some (some R)) {xs : List DV} (hlen : R.xs.length ≤ xs.length) {u : Value} (hv : R.xs.length = xs.length → u = G.rowV id)
    (hG : ∀ k, G.own k = .row id ∨ G'.own k = G.own k ∨ (w.heap.size ≤ k ∧ G'.own k = .row id)) (hG1 : ∀ k, G.own k ≠ .free → G.own k ≠ .row id → G'.own k = G.own k) (hG2 : ∀ k, G.own k = .row id → G'.own k = .row id ∨ G'.own k = .free)
    (hrv : G'.rowV = updN G.rowV id u) (hbb : G'.boxB = G.boxB) (hmb : G'.mapB = G.mapB)
    (hbelow : Below w0.heap.size w0 w') (hsz : ∀ k, G'.own k ≠ .free → k < w'.heap.size)
    (hoth : ∀ k, G.own k ≠ .free → G.own k ≠ .row id → w'.heap[k]? = w.heap[k]?)
    (hrow : Ext G σ w G' { σ with rows := σ.rows.set id (some { R with xs := xs }) } w' → RowRel G' { σ with rows := σ.rows.set id (some { R with xs := xs }) } w' id { R with xs := xs }) :
    StoreRel w0 G' { σ with rows := σ.rows.set id (some { R with xs := xs }) } w' ∧ Ext G σ w G' { σ with rows := σ.rows.set id (some { R with xs := xs }) } w' := by
  have hid := (List.getElem?_eq_some_iff.1 hR).1
  have hx : Ext G σ w G' { σ with rows := σ.rows.set id (some { R with xs := xs }) } w' := by
    refine ⟨fun k hk => ⟨by rw [hG1 k (by rw [hk]; simp) (by rw [hk]; simp)]; exact hk, hoth k (by rw [hk]; simp) (by rw [hk]; simp)⟩, by simp, Nat.le_refl _, Nat.le_refl _, fun i R' hi hR' => ?_, fun _ _ => by rw [hbb], fun _ _ => by rw [hmb]⟩
    by_cases e : i = id
    · subst e
      rw [List.getElem?_set_self hid] at hR'
      injection hR' with hR'; injection hR' with hR'; subst hR'
      exact ⟨R, hR, rfl, hlen, fun he => by rw [hrv, updN_same]; exact hv he⟩
    · rw [List.getElem?_set_ne (Ne.symm e)] at hR'
      exact ⟨R', hR', rfl, Nat.le_refl _, fun _ => by rw [hrv, updN_ne _ _ e]⟩
  refine ⟨⟨hbelow, hsz, fun k hk hi => ?_, fun i R' hR' => ?_, fun i B hB => ?_, fun i M hM => ?_⟩, hx⟩
  · rcases hG k with h1 | h1 | ⟨h1, _⟩
    · exact h.trk k (by rw [h1]; simp) (by rw [h1]; simp)
    · rw [h1] at hk hi; exact h.trk k hk hi
    · have := h.below.size; omega
  · by_cases e : i = id
    · subst e
      rw [List.getElem?_set_self hid] at hR'
      injection hR' with hR'; injection hR' with hR'; subst hR'
      exact hrow hx
    · rw [List.getElem?_set_ne (Ne.symm e)] at hR'
      exact (h.rows i R' hR').keep hx (by rw [hrv, updN_ne _ _ e]) (fun k hk => ⟨by rw [hG1 k (by rw [hk]; simp) (by rw [hk]; simpa using e)]; exact hk, hoth k (by rw [hk]; simp) (by rw [hk]; simpa using e)⟩)
  · exact (h.boxes i B hB).keep hx (by rw [hbb]) (fun k hk => ⟨by rw [hG1 k (by rw [hk]; simp) (by rw [hk]; simp)]; exact hk, hoth k (by rw [hk]; simp) (by rw [hk]; simp)⟩)
  · exact (h.maps i M hM).keep hx (by rw [hmb]) (fun k hk => ⟨by rw [hG1 k (by rw [hk]; simp) (by rw [hk]; simp)]; exact hk, hoth k (by rw [hk]; simp) (by rw [hk]; simp)⟩)
end
end Go.Val
