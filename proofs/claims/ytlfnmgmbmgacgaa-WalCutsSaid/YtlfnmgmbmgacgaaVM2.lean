/- What writes: new blocks, stores, rows that grow. The world goes on, and what is known of it with it. The operations that write, one by one. Rows that grow: append, make, literals; and rows that are let be read alone from now on. Append. Append, as an effect on rows. New rows: append to what is full, noughts, make, literals, texts as octets; rows and variables that are only read from now on. Rows and variables that are only read from now on. What a function leaves behind: what is its own falls away. -/
import Derived.Test.YtlfnmgmbmgacgaaVM1
import Derived.Laws.Append
import Derived.IntWalk
section
namespace Go.Val
open Go.RowKit
set_option linter.unusedSimpArgs false
set_option linter.unusedVariables false

structure Wr (g : Nat) (w w' : World) : Prop where
 os : w'.os = w.os
 tape : w'.tape = w.tape
 output : w'.output = w.output
 size : w'.heap.size = w.heap.size
 other : ∀ k, k ≠ g → w'.heap[k]? = w.heap[k]?
theorem Wr.refl (g : Nat) (w : World) : Wr g w w := ⟨rfl, rfl, rfl, rfl, fun _ _ => rfl⟩
theorem Wr.trans {g : Nat} {a b c : World} (h : Wr g a b) (k : Wr g b c) : Wr g a c :=
 ⟨k.os.trans h.os, k.tape.trans h.tape, k.output.trans h.output, k.size.trans h.size, fun i hi => (k.other i hi).trans (h.other i hi)⟩

theorem setCell_blk {w : World} {g o : Nat} {cur : Array Value} {e : TypeId} {fr : Nat × Nat} (v : Value) (h : w.heap[g]? = some (.cells cur e fr)) :
  (w.setCell ⟨g, o, none⟩ v).heap[g]? = some (.cells (cur.setIfInBounds o v) e fr) ∧ Wr g w (w.setCell ⟨g, o, none⟩ v) := by
 refine ⟨?_, rfl, rfl, rfl, by simp [World.setCell], fun k hk => Below.heap_setCell w _ v k hk⟩
 simp [World.setCell, Array.getElem?_modify, h]

theorem run_storeCells_blk (P : Program) (g o : Nat) (e : TypeId) (fr : Nat × Nat) : ∀ (vs : List Value) (i : Nat) (cur : Array Value) (w : World), w.heap[g]? = some (.cells cur e fr) → o + i + vs.length ≤ cur.size →
  NoFr fr cur.size → (∀ v ∈ vs, v.oneCell' = true) → ∃ w', (storeCells ⟨g, o, none⟩ vs i).run P w = .ok () w' ∧ Wr g w w' ∧ w'.heap[g]? = some (.cells (over cur.toList (o + i) vs).toArray e fr)
 | [], i, cur, w, hg, hl, hf, h1 => ⟨w, rfl, Wr.refl _ _, by simpa [over] using hg⟩
 | v :: rest, i, cur, w, hg, hl, hf, h1 => by
  have hi : o + i < cur.size := by simp at hl; omega
  have hcell : w.cell? ⟨g, o + i, none⟩ = some cur[o + i] := by simp [World.cell?, hg, hi]
  have hfro : w.frozen? ⟨g, o + i, none⟩ = false := by
   have := hf (o + i) hi
   simp only [World.frozen?, hg]
   simp only [Bool.and_eq_false_iff, decide_eq_false_iff_not]
   omega
  have hst : (store ((⟨g, o, none⟩ : Addr).add i) v).run P w = .ok () (w.setCell ⟨g, o + i, none⟩ v) := by
   rw [Addr_add, run_store P w _ v _ (h1 v (by simp)), hcell]
   simp [hfro]
  obtain ⟨h2, h3⟩ := setCell_blk (o := o + i) v hg
  obtain ⟨w', e1, e2, e3⟩ := run_storeCells_blk P g o e fr rest (i + 1) _ (w.setCell ⟨g, o + i, none⟩ v) h2 (by simp at hl ⊢; omega) (by simpa using hf) (fun x hx => h1 x (by simp [hx]))
  refine ⟨w', ?_, h3.trans e2, ?_⟩
  ·simp only [storeCells, Sem.run_bind, hst, Result.andThen_ok, e1]
  ·rw [e3]
   congr 3
   have := foldl_over (o + i) (v :: rest) 0 cur (by simpa using hl)
   simp only [over, Array.toList_setIfInBounds, List.length_cons]
   have h1' : (cur.toList.set (o + i) v).take (o + (i + 1)) = cur.toList.take (o + i) ++ [v] := by
    rw [show o + (i + 1) = o + i + 1 by omega, List.take_succ_eq_append_getElem (by simp; omega)]
    simp [List.take_set_of_le]
   have h2' : (cur.toList.set (o + i) v).drop (o + (i + 1) + rest.length) = cur.toList.drop (o + i + (rest.length + 1)) := by
    rw [List.drop_set_of_lt (by omega)]
    congr 1
    omega
   rw [h1', h2']
   simp

section
variable {w0 : World} {G G' : Gh} {σ σ' : Store} {w w' : World}

theorem RowRel.keep {id : Nat} {R : Row} (h : RowRel G σ w id R) (hx : Ext G σ w G' σ' w') (hv : G'.rowV id = G.rowV id) (hk : ∀ k, G.own k = .row id → G'.own k = .row id ∧ w'.heap[k]? = w.heap[k]?) : RowRel G' σ' w' id R := by
 obtain ⟨h0, h1, A, n, c, hA, hn, hc, hr⟩ := h
 refine ⟨h0, h1, A, n, c, hv.trans hA, hn, hc, ?_⟩
 rcases hr with h | ⟨g, arr, fr, h2, h3, h4, h5, h6, h7⟩
 ·exact .inl h
 ·obtain ⟨a, b⟩ := hk g h3
  exact .inr ⟨g, arr, fr, h2, a, b.trans h4, h5, h6, fun i d v hd hv => (h7 i d v hd hv).ext hx⟩
theorem BoxRel.keep {id : Nat} {B : Box} (h : BoxRel G σ w id B) (hx : Ext G σ w G' σ' w') (hv : G'.boxB id = G.boxB id) (hk : ∀ k, G.own k = .box id → G'.own k = .box id ∧ w'.heap[k]? = w.heap[k]?) : BoxRel G' σ' w' id B := by
 obtain ⟨h0, arr, h1, h2⟩ := h
 obtain ⟨a, b⟩ := hk _ h0
 exact ⟨by rw [hv]; exact a, arr, by rw [hv]; exact b.trans h1, h2.ext hx⟩
theorem MapRel.keep {id : Nat} {M : List (DV × DV)} (h : MapRel G σ w id M) (hx : Ext G σ w G' σ' w') (hv : G'.mapB id = G.mapB id) (hk : ∀ k, G.own k = .map id → G'.own k = .map id ∧ w'.heap[k]? = w.heap[k]?) : MapRel G' σ' w' id M := by
 obtain ⟨h0, h⟩ := h
 obtain ⟨a, b⟩ := hk _ h0
 refine ⟨by rw [hv]; exact a, h.imp ?_ ?_⟩
 ·rintro ⟨g0, es, clock, h1, h2, h3, h4, h5⟩
  exact ⟨g0, es, clock, by rw [hv]; exact b.trans h1, h2, fun i e m he hm => ⟨(h3 i e m he hm).1.ext hx, (h3 i e m he hm).2.ext hx⟩, h4, h5⟩
 ·rintro ⟨ks, vs, is, k, es, clock, since, last, seen, h1, h2, h3, h4, h5⟩
  refine ⟨ks, vs, is, k, es, clock, since, last, seen, h1, h2.ext hx, ?_, by rw [hv]; exact b.trans h4, h5⟩
  cases h2 with
  | cm _ _ _ _ _ him hh => rw [(hx.imm k him).2]; exact h3

def updN {α : Type} (f : Nat → α) (k : Nat) (v : α) : Nat → α := fun i => if i = k then v else f i
@[simp] theorem updN_same {α : Type} (f : Nat → α) (k : Nat) (v : α) : updN f k v k = v := by simp [updN]
theorem updN_ne {α : Type} (f : Nat → α) {k i : Nat} (v : α) (h : i ≠ k) : updN f k v i = f i := by simp [updN, h]

theorem StoreRel.drew (h : StoreRel w0 G σ w) : StoreRel w0 G σ w.drew ∧ Ext G σ w G σ w.drew := by
 have hx : Ext G σ w G σ w.drew := ⟨fun _ h => ⟨h, rfl⟩, Nat.le_refl _, Nat.le_refl _, Nat.le_refl _, fun _ R _ h => ⟨R, h, rfl, Nat.le_refl _, fun _ => rfl⟩, fun _ _ => rfl, fun _ _ => rfl, fun _ h => ⟨h, rfl⟩⟩
 exact ⟨⟨h.below.drew, h.lt, h.trk, fun id R hR => (h.rows id R hR).keep hx rfl (fun _ h => ⟨h, rfl⟩), fun id B hB => (h.boxes id B hB).keep hx rfl (fun _ h => ⟨h, rfl⟩), fun id M hM => (h.maps id M hM).keep hx rfl (fun _ h => ⟨h, rfl⟩)⟩, hx⟩

theorem StoreRel.new (h : StoreRel w0 G σ w) (o : Obj) (ω : Owner) (hω : ω ≠ .imm) :
  StoreRel w0 { G with own := updN G.own w.heap.size ω } σ (w.alloc o) ∧ Ext G σ w { G with own := updN G.own w.heap.size ω } σ (w.alloc o) := by
 have hfree : ∀ k, w.heap.size ≤ k → G.own k = .free := fun k hk => by
  cases hq : G.own k with
  | free => rfl
  | _ => have := h.lt k (by rw [hq]; simp); omega
 have hne : ∀ k, G.own k ≠ .free → k ≠ w.heap.size := fun k hk => by have := h.lt k hk; omega
 have hold : ∀ k ω', G.own k = ω' → ω' ≠ .free → updN G.own w.heap.size ω k = ω' ∧ (w.alloc o).heap[k]? = w.heap[k]? := fun k ω' hk hf => by
  have hlt := h.lt k (by rw [hk]; exact hf)
  exact ⟨by rw [updN_ne _ _ (by omega)]; exact hk, Below.heap_alloc _ _ _ hlt⟩
 have hx : Ext G σ w { G with own := updN G.own w.heap.size ω } σ (w.alloc o) :=
  ⟨fun k hk => hold k _ hk (by simp), Nat.le_refl _, Nat.le_refl _, Nat.le_refl _, fun _ R _ h => ⟨R, h, rfl, Nat.le_refl _, fun _ => rfl⟩, fun _ _ => rfl, fun _ _ => rfl, fun k hk => hold k _ hk (by simp)⟩
 refine ⟨⟨h.below.alloc h.below.size o, fun k hk => ?_, fun k hk hi => ?_, fun id R hR => (h.rows id R hR).keep hx rfl (fun k hk => hold k _ hk (by simp)), fun id B hB => (h.boxes id B hB).keep hx rfl (fun k hk => hold k _ hk (by simp)), fun id M hM => (h.maps id M hM).keep hx rfl (fun k hk => hold k _ hk (by simp))⟩, hx⟩
 ·simp only [World.size_alloc]
  by_cases e : k = w.heap.size
  ·omega
  ·simp only [updN_ne _ _ e] at hk
   have := h.lt k hk
   omega
 ·by_cases e : k = w.heap.size
  ·rw [e]; exact h.below.size
  ·simp only [updN_ne _ _ e] at hk hi
   exact h.trk k hk hi

theorem StoreRel.box (h : StoreRel w0 G σ w) {cs : List DV} {vs : List Value} (hr : RelL G σ w cs vs) (ty : TypeId) :
  ∃ G', StoreRel w0 G' { σ with boxes := σ.boxes ++ [some ⟨ty, cs⟩] } (w.alloc (.cells vs.toArray ty)) ∧ Ext G σ w G' { σ with boxes := σ.boxes ++ [some ⟨ty, cs⟩] } (w.alloc (.cells vs.toArray ty)) ∧ G'.boxB σ.boxes.length = w.heap.size := by
 obtain ⟨h1, x1⟩ := h.new (.cells vs.toArray ty) (.box σ.boxes.length) (by simp)
 have x2 : Ext { G with own := updN G.own w.heap.size (.box σ.boxes.length) } σ (w.alloc (.cells vs.toArray ty))
   { G with own := updN G.own w.heap.size (.box σ.boxes.length), boxB := updN G.boxB σ.boxes.length w.heap.size } { σ with boxes := σ.boxes ++ [some ⟨ty, cs⟩] } (w.alloc (.cells vs.toArray ty)) :=
  ⟨fun _ h => ⟨h, rfl⟩, Nat.le_refl _, by simp, Nat.le_refl _, fun _ R _ h => ⟨R, h, rfl, Nat.le_refl _, fun _ => rfl⟩, fun id hid => by simp only; rw [updN_ne _ _ (by omega)], fun _ _ => rfl, fun _ h => ⟨h, rfl⟩⟩
 refine ⟨{ G with own := updN G.own w.heap.size (.box σ.boxes.length), boxB := updN G.boxB σ.boxes.length w.heap.size }, ⟨h1.below, h1.lt, h1.trk, fun id R hR => (h1.rows id R hR).keep x2 rfl (fun _ h => ⟨h, rfl⟩), fun id B hB => ?_, fun id M hM => (h1.maps id M hM).keep x2 rfl (fun _ h => ⟨h, rfl⟩)⟩, x1.trans x2, by simp⟩
 rcases Nat.lt_trichotomy id σ.boxes.length with hlt | rfl | hgt
 ·rw [List.getElem?_append_left hlt] at hB
  exact (h1.boxes id B hB).keep x2 (by simp only; rw [updN_ne _ _ (by omega)]) (fun _ h => ⟨h, rfl⟩)
 ·simp at hB
  subst hB
  refine ⟨by simp, vs.toArray, ?_, ?_⟩
  ·simp only [updN_same]
   exact heap_alloc_new w _
  ·have := hr.ext (x1.trans x2)
   simpa using this
 ·rw [List.getElem?_eq_none (by simp; omega)] at hB
  simp at hB

theorem StoreRel.box_set (h : StoreRel w0 G σ w) {b : Nat} {B : Box} (hb : σ.boxes[b]? = some (some B)) (hw : Wr (G.boxB b) w w') {cs : List DV} {arr : Array Value}
  (hh : w'.heap[G.boxB b]? = some (.cells arr B.ty (0, 0))) (hr : RelL G σ w cs arr.toList) :
  StoreRel w0 G { σ with boxes := σ.boxes.set b (some ⟨B.ty, cs⟩) } w' ∧ Ext G σ w G { σ with boxes := σ.boxes.set b (some ⟨B.ty, cs⟩) } w' := by
 obtain ⟨ho, _⟩ := h.boxes b B hb
 have hne : ∀ k ω, G.own k = ω → ω ≠ .box b → w'.heap[k]? = w.heap[k]? := fun k ω hk hω => hw.other k (fun e => by subst e; rw [ho] at hk; exact hω hk.symm)
 have hx : Ext G σ w G { σ with boxes := σ.boxes.set b (some ⟨B.ty, cs⟩) } w' :=
  ⟨fun k hk => ⟨hk, hne k _ hk (by simp)⟩, Nat.le_refl _, by simp, Nat.le_refl _, fun _ R _ h => ⟨R, h, rfl, Nat.le_refl _, fun _ => rfl⟩, fun _ _ => rfl, fun _ _ => rfl, fun k hk => ⟨hk, hne k _ hk (by simp)⟩⟩
 refine ⟨⟨?_, fun k hk => by rw [hw.size]; exact h.lt k hk, h.trk, fun id R hR => (h.rows id R hR).keep hx rfl (fun k hk => ⟨hk, hne k _ hk (by simp)⟩), fun id B' hB => ?_, fun id M hM => (h.maps id M hM).keep hx rfl (fun k hk => ⟨hk, hne k _ hk (by simp)⟩)⟩, hx⟩
 ·have ht := h.trk (G.boxB b) (by rw [ho]; simp) (by rw [ho]; simp)
  exact h.below.trans ⟨hw.os, hw.tape, hw.output, by rw [hw.size]; exact Nat.le_refl _, fun k hk => hw.other k (by omega)⟩
 ·by_cases e : id = b
  ·subst e
   rw [List.getElem?_set_self (List.getElem?_eq_some_iff.1 hb).1] at hB
   injection hB with hB; injection hB with hB; subst hB
   exact ⟨ho, arr, hh, hr.ext hx⟩
  ·rw [List.getElem?_set_ne (Ne.symm e)] at hB
   exact (h.boxes id B' hB).keep hx rfl (fun k hk => ⟨hk, hne k _ hk (by simp; exact e)⟩)

theorem StoreRel.row (h : StoreRel w0 G σ w) {xs : List DV} {e : TypeId} {st c : Nat} {arr : Array Value} (h0 : 0 < st) (hst : ∀ x ∈ xs, x.cells.length = st) (hc : xs.length ≤ c) (hsz : arr.size = c * st)
  (hr : ∀ (i : Nat) d v, (flat xs)[i]? = some d → arr[i]? = some v → RelV G σ w d v) {o : Obj} {fr : Nat × Nat} (ho : o = .cells arr e fr) (hf : NoFr fr arr.size) :
  ∃ G', StoreRel w0 G' { σ with rows := σ.rows ++ [some ⟨xs, e, st⟩] } (w.alloc o) ∧ Ext G σ w G' { σ with rows := σ.rows ++ [some ⟨xs, e, st⟩] } (w.alloc o) ∧ G'.rowV σ.rows.length = .slice (some ⟨w.heap.size, 0, none⟩) xs.length c := by
 subst ho
 obtain ⟨h1, x1⟩ := h.new (.cells arr e fr) (.row σ.rows.length) (by simp)
 have x2 : Ext { G with own := updN G.own w.heap.size (.row σ.rows.length) } σ (w.alloc (.cells arr e fr))
   { G with own := updN G.own w.heap.size (.row σ.rows.length), rowV := updN G.rowV σ.rows.length (.slice (some ⟨w.heap.size, 0, none⟩) xs.length c) } { σ with rows := σ.rows ++ [some ⟨xs, e, st⟩] } (w.alloc (.cells arr e fr)) :=
  ⟨fun _ h => ⟨h, rfl⟩, by simp, Nat.le_refl _, Nat.le_refl _, fun id R hid h => by
   rw [List.getElem?_append_left hid] at h
   exact ⟨R, h, rfl, Nat.le_refl _, fun _ => by simp only; rw [updN_ne _ _ (by omega)]⟩, fun _ _ => rfl, fun _ _ => rfl, fun _ h => ⟨h, rfl⟩⟩
 refine ⟨{ G with own := updN G.own w.heap.size (.row σ.rows.length), rowV := updN G.rowV σ.rows.length (.slice (some ⟨w.heap.size, 0, none⟩) xs.length c) }, ⟨h1.below, h1.lt, h1.trk, fun id R hR => ?_, fun id B hB => (h1.boxes id B hB).keep x2 rfl (fun _ h => ⟨h, rfl⟩), fun id M hM => (h1.maps id M hM).keep x2 rfl (fun _ h => ⟨h, rfl⟩)⟩, x1.trans x2, by simp⟩
 rcases Nat.lt_trichotomy id σ.rows.length with hlt | rfl | hgt
 ·rw [List.getElem?_append_left hlt] at hR
  exact (h1.rows id R hR).keep x2 (by simp only; rw [updN_ne _ _ (by omega)]) (fun _ h => ⟨h, rfl⟩)
 ·simp at hR
  subst hR
  refine ⟨h0, hst, some ⟨w.heap.size, 0, none⟩, xs.length, c, by simp, rfl, hc, .inr ⟨w.heap.size, arr, fr, rfl, by simp, heap_alloc_new w _, hf, hsz, fun i d v hd hv => (hr i d v hd hv).ext (x1.trans x2)⟩⟩
 ·rw [List.getElem?_eq_none (by simp; omega)] at hR
  simp at hR

theorem StoreRel.row0 (h : StoreRel w0 G σ w) {e : TypeId} {st : Nat} (h0 : 0 < st) (A : Option Addr) :
  ∃ G', StoreRel w0 G' { σ with rows := σ.rows ++ [some ⟨[], e, st⟩] } w ∧ Ext G σ w G' { σ with rows := σ.rows ++ [some ⟨[], e, st⟩] } w ∧ G'.rowV σ.rows.length = .slice A 0 0 := by
 have x2 : Ext G σ w { G with rowV := updN G.rowV σ.rows.length (.slice A 0 0) } { σ with rows := σ.rows ++ [some ⟨[], e, st⟩] } w :=
  ⟨fun _ h => ⟨h, rfl⟩, by simp, Nat.le_refl _, Nat.le_refl _, fun id R hid h => by
   rw [List.getElem?_append_left hid] at h
   exact ⟨R, h, rfl, Nat.le_refl _, fun _ => by simp only; rw [updN_ne _ _ (by omega)]⟩, fun _ _ => rfl, fun _ _ => rfl, fun _ h => ⟨h, rfl⟩⟩
 refine ⟨{ G with rowV := updN G.rowV σ.rows.length (.slice A 0 0) }, ⟨h.below, h.lt, h.trk, fun id R hR => ?_, fun id B hB => (h.boxes id B hB).keep x2 rfl (fun _ h => ⟨h, rfl⟩), fun id M hM => (h.maps id M hM).keep x2 rfl (fun _ h => ⟨h, rfl⟩)⟩, x2, by simp⟩
 rcases Nat.lt_trichotomy id σ.rows.length with hlt | rfl | hgt
 ·rw [List.getElem?_append_left hlt] at hR
  exact (h.rows id R hR).keep x2 (by simp only; rw [updN_ne _ _ (by omega)]) (fun _ h => ⟨h, rfl⟩)
 ·simp at hR
  subst hR
  exact ⟨h0, by simp, A, 0, 0, by simp, rfl, Nat.le_refl _, .inl rfl⟩
 ·rw [List.getElem?_eq_none (by simp; omega)] at hR
  simp at hR

theorem StoreRel.row_set (h : StoreRel w0 G σ w) {id : Nat} {R : Row} (hR : σ.rows[id]? = some (some R)) {xs : List DV} (hlen : R.xs.length ≤ xs.length) {u : Value} (hv : R.xs.length = xs.length → u = G.rowV id)
  (hG : ∀ k, G.own k = .row id ∨ G'.own k = G.own k ∨ (w.heap.size ≤ k ∧ G'.own k = .row id)) (hG1 : ∀ k, G.own k ≠ .free → G.own k ≠ .row id → G'.own k = G.own k) (hG2 : ∀ k, G.own k = .row id → G'.own k = .row id ∨ G'.own k = .free)
  (hrv : G'.rowV = updN G.rowV id u) (hbb : G'.boxB = G.boxB) (hmb : G'.mapB = G.mapB)
  (hbelow : Below w0.heap.size w0 w') (hsz : ∀ k, G'.own k ≠ .free → k < w'.heap.size)
  (hoth : ∀ k, G.own k ≠ .free → G.own k ≠ .row id → w'.heap[k]? = w.heap[k]?)
  (hrow : Ext G σ w G' { σ with rows := σ.rows.set id (some { R with xs := xs }) } w' → RowRel G' { σ with rows := σ.rows.set id (some { R with xs := xs }) } w' id { R with xs := xs }) :
  StoreRel w0 G' { σ with rows := σ.rows.set id (some { R with xs := xs }) } w' ∧ Ext G σ w G' { σ with rows := σ.rows.set id (some { R with xs := xs }) } w' := by
 have hid := (List.getElem?_eq_some_iff.1 hR).1
 have hx : Ext G σ w G' { σ with rows := σ.rows.set id (some { R with xs := xs }) } w' := by
  refine ⟨fun k hk => ⟨by rw [hG1 k (by rw [hk]; simp) (by rw [hk]; simp)]; exact hk, hoth k (by rw [hk]; simp) (by rw [hk]; simp)⟩, by simp, Nat.le_refl _, Nat.le_refl _, fun i R' hi hR' => ?_, fun _ _ => by rw [hbb], fun _ _ => by rw [hmb], fun k hk => ⟨by rw [hG1 k (by rw [hk]; simp) (by rw [hk]; simp)]; exact hk, hoth k (by rw [hk]; simp) (by rw [hk]; simp)⟩⟩
  by_cases e : i = id
  ·subst e
   rw [List.getElem?_set_self hid] at hR'
   injection hR' with hR'; injection hR' with hR'; subst hR'
   exact ⟨R, hR, rfl, hlen, fun he => by rw [hrv, updN_same]; exact hv he⟩
  ·rw [List.getElem?_set_ne (Ne.symm e)] at hR'
   exact ⟨R', hR', rfl, Nat.le_refl _, fun _ => by rw [hrv, updN_ne _ _ e]⟩
 refine ⟨⟨hbelow, hsz, fun k hk hi => ?_, fun i R' hR' => ?_, fun i B hB => ?_, fun i M hM => ?_⟩, hx⟩
 ·rcases hG k with h1 | h1 | ⟨h1, _⟩
  ·exact h.trk k (by rw [h1]; simp) (by rw [h1]; simp)
  ·rw [h1] at hk hi; exact h.trk k hk hi
  ·have := h.below.size; omega
 ·by_cases e : i = id
  ·subst e
   rw [List.getElem?_set_self hid] at hR'
   injection hR' with hR'; injection hR' with hR'; subst hR'
   exact hrow hx
  ·rw [List.getElem?_set_ne (Ne.symm e)] at hR'
   exact (h.rows i R' hR').keep hx (by rw [hrv, updN_ne _ _ e]) (fun k hk => ⟨by rw [hG1 k (by rw [hk]; simp) (by rw [hk]; simpa using e)]; exact hk, hoth k (by rw [hk]; simp) (by rw [hk]; simpa using e)⟩)
 ·exact (h.boxes i B hB).keep hx (by rw [hbb]) (fun k hk => ⟨by rw [hG1 k (by rw [hk]; simp) (by rw [hk]; simp)]; exact hk, hoth k (by rw [hk]; simp) (by rw [hk]; simp)⟩)
 ·exact (h.maps i M hM).keep hx (by rw [hmb]) (fun k hk => ⟨by rw [hG1 k (by rw [hk]; simp) (by rw [hk]; simp)]; exact hk, hoth k (by rw [hk]; simp) (by rw [hk]; simp)⟩)
end
end Go.Val
end

section
namespace Go.Val
open Go.RowKit
set_option linter.unusedSimpArgs false
set_option linter.unusedVariables false

def Effect (P : Program) (s : St) (o : Oper) (R : DV → Store → Prop) : Prop :=
 ∀ w0 G a w, RelS w0 G s a w → ∃ nv w' v r σ' G', (execOp a.eval o).run P w = .ok nv w' ∧ (nv = .value v ∨ (nv = .skip ∧ v = Go.undef)) ∧
  R r σ' ∧ StoreRel w0 G' σ' w' ∧ Ext G s.σ w G' σ' w' ∧ RelV G' σ' w' r v

theorem EvL_effect {P : Program} {s : St} {Q : Exit → St → Prop} {ops : Array Oper} {o : Oper} {rest : List Oper} {R : DV → Store → Prop} (hg : wantedD ops s.slots o = some true) (h : Effect P s o R)
  (k : ∀ r σ', R r σ' → EvL P ops rest (St.put ⟨s.slots, σ'⟩ o.dst r) Q) : EvL P ops (o :: rest) s Q := by
 intro w0 G0 σ0 W0 G a w hx hr
 rw [wpList]
 rw [if_pos (wanted_rel hr.2.1 hg)]
 obtain ⟨nv, w', v, r, σ', G', he, hv, hR, hS, hE, hd⟩ := h w0 G a w hr
 refine .inl ?_
 have key : wpList P ops (Post w0 G0 σ0 W0 Q) rest (a.put o.dst v) w' := by
  refine k r σ' hR w0 G0 σ0 W0 G' _ w' (by rw [put_σ]; exact hx.trans hE) ⟨by rw [put_defers]; exact hr.1.ext hE, ?_, by rw [put_σ]; exact hS⟩
  rw [put_σ]
  exact RelL_put (hr.2.1.ext hE) hd o.dst
 rcases hv with rfl | ⟨rfl, rfl⟩
 ·simp only [Oper.wp, he, Oper.upon]; exact key
 ·simp only [Oper.wp, he, Oper.upon]; exact key

def Cell1 (σ : Store) : DV → Prop
 | .undef => False
 | .agg _ => False
 | .tup _ => False
 | .row id len => ∃ R, σ.rows[id]? = some (some R) ∧ R.xs.length = len
 | .rp id len _ _ => ∃ R, σ.rows[id]? = some (some R) ∧ R.xs.length = len
 | _ => True
def FlatD (σ : Store) (d : DV) : Prop := Solid σ d ∧ ∀ c ∈ d.cells, Cell1 σ c

def one (r : DV) (σ : Store) : DV → Store → Prop := fun r' σ' => r' = r ∧ σ' = σ

section
variable {P : Program} {T : TypeId → TI} {s : St}

theorem cell1_one {w0 : World} {G : Gh} {σ : Store} {w : World} (hS : StoreRel w0 G σ w) {d : DV} {v : Value} (h : RelV G σ w d v) (h1 : Cell1 σ d) : v.oneCell' = true := by
 cases d with
 | undef => exact h1.elim
 | agg _ => exact h1.elim
 | tup _ => exact h1.elim
 | row id len =>
  obtain ⟨R, hR, hl⟩ := h1
  cases h with
  | row _ _ v hid hle hv =>
   rw [hv R hR hl]
   obtain ⟨_, _, A, n, c, hA, _⟩ := hS.rows id R hR
   rw [hA]; rfl
 | rp id len i off =>
  obtain ⟨R, hR, hl⟩ := h1
  cases h with
  | rp _ _ _ _ v hid hle hv =>
   obtain ⟨g, n, c, _, rfl⟩ := hv R hR hl
   rfl
 | _ => cases h <;> rfl

theorem flatD_ones {w0 : World} {G : Gh} {σ : Store} {w : World} (hS : StoreRel w0 G σ w) {ds : List DV} {vs : List Value} (h : RelL G σ w ds vs) (h1 : ∀ c ∈ ds, Cell1 σ c) : ∀ v ∈ vs, v.oneCell' = true := by
 intro v hv
 obtain ⟨i, hi⟩ := List.mem_iff_getElem?.1 hv
 have hl : i < ds.length := by rw [← h.1]; exact (List.getElem?_eq_some_iff.1 hi).1
 exact cell1_one hS (h.2 i _ v (List.getElem?_eq_getElem hl) hi) (h1 _ (List.getElem_mem hl))

theorem ofVal0_cells (v : Value) : (ofVal0 v).cells = [ofVal0 v] := by unfold ofVal0; split <;> rfl
theorem ofVal_eq (v : Value) (h : ∀ cs, v ≠ .agg cs) : ofVal v = ofVal0 v := by
 cases v with
 | agg cs => exact absurd rfl (h cs)
 | slice a n c => cases a <;> cases n <;> cases c <;> rfl
 | pointer a => cases a <;> rfl
 | _ => rfl
theorem ofVal_cells {G : Gh} {σ : Store} {w : World} (v : Value) : RelL G σ w (ofVal v).cells v.cells.toList := by
 have key : (∀ cs, v ≠ .agg cs) → RelL G σ w (ofVal v).cells v.cells.toList := by
  intro h
  rw [ofVal_eq v h, ofVal0_cells]
  have e : v.cells = #[v] := by cases v <;> first | rfl | exact absurd rfl (h _)
  rw [e]
  exact .cons (ofVal0_rel w v) .nil
 cases v with
 | agg cs => exact (ofVal_rel (G := G) (σ := σ) w (.agg cs)).cells (by simp [ofVal]) (by simp [ofVal]) (by simp [ofVal])
 | _ => exact key (by simp)

theorem Effect.box {o : Oper} {e : TypeId} {x : Operand} (ho : o.op = .box e x) (hs : Solid s.σ (get s.slots x)) :
  Effect P s o (one (.ptr s.σ.boxes.length 0) { s.σ with boxes := s.σ.boxes ++ [some ⟨e, (get s.slots x).cells⟩] }) := by
 intro w0 G a w hr
 have hc := solid_cells w hr.2.2 (get_rel w hr.2.1 x) hs
 obtain ⟨G', h1, h2, h3⟩ := hr.2.2.box hc e
 refine ⟨.value (.pointer (some ⟨w.heap.size, 0, none⟩)), _, _, _, _, G', ?_, .inl rfl, ⟨rfl, rfl⟩, h1, h2, ?_⟩
 ·simp [execOp, ho, Instr.box, newVar, newRow]
 ·rw [← h3]; exact .ptr _ _ (by simp)

theorem Effect.alloc (hT : TOK P T) {o : Oper} {e : TypeId} (ho : o.op = .alloc e) (hne : (T e).ty ≠ .other) :
  Effect P s o (one (.ptr s.σ.boxes.length 0) { s.σ with boxes := s.σ.boxes ++ [some ⟨e, (ofVal (T e).zero).cells⟩] }) := by
 intro w0 G a w hr
 obtain ⟨G', h1, h2, h3⟩ := hr.2.2.box (ofVal_cells (T e).zero) e
 refine ⟨.value (.pointer (some ⟨w.heap.size, 0, none⟩)), _, _, _, _, G', ?_, .inl rfl, ⟨rfl, rfl⟩, h1, h2, ?_⟩
 ·simp [execOp, ho, Instr.alloc, newVar, newRow, TOK.zero hT w hne]
 ·rw [← h3]; exact .ptr _ _ (by simp)

theorem Effect.store (hT : TOK P T) {o : Oper} {t : TypeId} {p x : Operand} (ho : o.op = .store t p x) {b off : Nat} (hp : get s.slots p = .ptr b off) {B : Box} (hB : s.σ.boxes[b]? = some (some B))
  (hne : (T t).ty ≠ .other) (hf : FlatD s.σ (get s.slots x)) (hl : (get s.slots x).cells.length = (T t).size) (hoff : off + (T t).size ≤ B.cs.length) :
  Effect P s o (one .undef { s.σ with boxes := s.σ.boxes.set b (some ⟨B.ty, over B.cs off (get s.slots x).cells⟩) }) := by
 intro w0 G a w hr
 have hx := get_rel w hr.2.1 x
 have hc := solid_cells w hr.2.2 hx hf.1
 have hpv := get_rel w hr.2.1 p
 rw [hp] at hpv
 generalize hpe : a.eval p = vp at hpv
 cases hpv with
 | ptr _ _ hb =>
  obtain ⟨_, arr, hh, hrel⟩ := hr.2.2.boxes b B hB
  have hcl : (a.eval x).cells.toList.length = (T t).size := by rw [hc.1, hl]
  have hal : arr.size = B.cs.length := by rw [← hrel.1, Array.length_toList]
  obtain ⟨w', e1, e2, e3⟩ := run_storeCells_blk P (G.boxB b) off B.ty (0, 0) (a.eval x).cells.toList 0 arr w hh (by rw [hcl, hal]; omega) (fun k _ h => by simp at h) (flatD_ones hr.2.2 hc hf.2)
  rw [Nat.add_zero] at e3
  obtain ⟨h1, h2⟩ := hr.2.2.box_set hB e2 e3 (cs := over B.cs off (get s.slots x).cells) (by simpa using hrel.over w hc off)
  refine ⟨.skip, w', Go.undef, .undef, _, G, ?_, .inr ⟨rfl, rfl⟩, ⟨rfl, rfl⟩, h1, h2, .undef _⟩
  simp only [execOp, ho, hpe, Instr.storeAt, Instr.sureAddr, Sem.run_bind, Sem.run_pure, Result.andThen_ok, storeVar, TOK.size hT w hne]
  rw [if_neg (by rw [← Array.length_toList, hcl]; simp)]
  simp [e1]

def DV.over (x : DV) (off : Nat) (cs : List DV) : DV :=
 match x with
 | .agg ds => .agg (Val.over ds off cs)
 | _ => cs.headD .undef

theorem over_len {α : Type} (cs ds : List α) (off : Nat) (h : off + ds.length ≤ cs.length) : (Val.over cs off ds).length = cs.length := by
 simp [Val.over]; omega

theorem over_cells {x : DV} {off : Nat} {cs : List DV} (h : off + cs.length ≤ x.cells.length) (h1 : 0 < cs.length) (hs : ∀ c ∈ cs, c.cells = [c]) : (x.over off cs).cells = Val.over x.cells off cs := by
 have key : (∀ ds, x ≠ .agg ds) → (x.over off cs).cells = Val.over x.cells off cs := by
  intro hn
  have e1 : x.cells = [x] := by cases x <;> first | rfl | exact absurd rfl (hn _)
  rw [e1] at h ⊢
  simp at h
  have h0 : off = 0 := by omega
  subst h0
  match cs, h1, hs with
  | [c], _, hs =>
   have : x.over 0 [c] = c := by cases x <;> first | rfl | exact absurd rfl (hn _)
   rw [this, hs c (by simp)]
   rfl
  | c :: d :: cs, _, _ => simp at h
 cases x with
 | agg ds => rfl
 | _ => exact key (by simp)

theorem flat_set {xs : List DV} {st : Nat} (h : ∀ x ∈ xs, x.cells.length = st) {i : Nat} (hi : i < xs.length) {y : DV} (hy : y.cells.length = st) : flat (xs.set i y) = Val.over (flat xs) (i * st) y.cells := by
 have e : xs.set i y = xs.take i ++ [y] ++ xs.drop (i + 1) := by
  rw [List.set_eq_take_append_cons_drop, if_pos hi]
  simp
 rw [e, flat_append, flat_append]
 unfold Val.over
 rw [← flat_take h, hy, show i * st + st = (i + 1) * st by rw [Nat.succ_mul], ← flat_drop h]
 simp [flat]

theorem over_over {α : Type} (cs ds es : List α) (i off : Nat) (st : Nat) (h1 : i + st ≤ cs.length) (h2 : off + es.length ≤ st) (hd : (cs.drop i).take st = ds) :
  Val.over cs i (Val.over ds off es) = Val.over cs (i + off) es := by
 have hdl : ds.length = st := by rw [← hd]; simp; omega
 have hol : (Val.over ds off es).length = st := by rw [over_len _ _ _ (by omega), hdl]
 apply List.ext_getElem?
 intro k
 unfold Val.over at *
 rw [hol]
 by_cases c1 : k < i
 ·simp only [List.append_assoc]
  rw [List.getElem?_append_left (by simp; omega), List.getElem?_append_left (by simp; omega)]
  simp [List.getElem?_take, c1, show k < i + off by omega]
 ·by_cases c2 : k < i + st
  ·rw [List.getElem?_append_left (by simp [hdl]; omega), List.getElem?_append_right (by simp; omega)]
   have hm : min i cs.length = i := by omega
   simp only [List.length_take, hm]
   by_cases c3 : k < i + off
   ·rw [List.append_assoc, List.getElem?_append_left (by simp [hdl]; omega), List.append_assoc, List.getElem?_append_left (by simp; omega)]
    rw [← hd]
    simp [List.getElem?_take, List.getElem?_drop, show k - i < off by omega, show k - i < st by omega, c3, show i + (k - i) = k by omega]
   ·by_cases c4 : k < i + off + es.length
    ·rw [List.append_assoc, List.getElem?_append_right (by simp [hdl]; omega), List.getElem?_append_left (by simp [hdl]; omega)]
     rw [List.append_assoc, List.getElem?_append_right (by simp; omega), List.getElem?_append_left (by simp; omega)]
     simp only [List.length_take, hdl]
     congr 1
     omega
    ·rw [List.getElem?_append_right (by simp [hdl]; omega), List.getElem?_append_right (by simp; omega)]
     simp only [List.length_append, List.length_take, hdl, List.getElem?_drop]
     rw [← hd]
     simp only [List.getElem?_take, List.getElem?_drop]
     rw [if_pos (by omega)]
     congr 1
     omega
  ·rw [List.getElem?_append_right (by simp [hdl]; omega), List.getElem?_append_right (by simp; omega)]
   simp only [List.length_append, List.length_take, hdl, List.getElem?_drop, List.length_drop]
   congr 1
   omega

theorem flat_over {xs : List DV} {st : Nat} (h : ∀ x ∈ xs, x.cells.length = st) {i : Nat} (hi : i < xs.length) {off : Nat} {cs : List DV} (hoff : off + cs.length ≤ st) (h1 : 0 < cs.length) (hs : ∀ c ∈ cs, c.cells = [c]) :
  flat (xs.set i ((xs.getD i .undef).over off cs)) = Val.over (flat xs) (i * st + off) cs := by
 have hx : (xs.getD i .undef).cells.length = st := by rw [List.getD_eq_getElem?_getD, List.getElem?_eq_getElem hi]; exact h _ (List.getElem_mem hi)
 have hoc := over_cells (x := xs.getD i .undef) (off := off) (cs := cs) (by omega) h1 hs
 rw [flat_set h hi (by rw [hoc, over_len _ _ _ (by omega), hx]), hoc]
 exact over_over _ _ _ _ _ st (by rw [flat_len h, ← Nat.succ_mul]; exact Nat.mul_le_mul_right _ hi) hoff (flat_at h i hi)
end
end Go.Val
end

section
namespace Go.Val
open Go.RowKit
set_option linter.unusedSimpArgs false
set_option linter.unusedVariables false

theorem over_take {α : Type} (b es : List α) (k n : Nat) (h : k + es.length ≤ n) (hn : n ≤ b.length) : Val.over (b.take n) k es = (Val.over b k es).take n := by
 unfold Val.over
 rw [List.take_append, List.take_append, List.take_take, List.take_take, List.drop_take]
 simp only [List.length_append, List.length_take]
 rw [Nat.min_eq_left (show k ≤ n by omega), Nat.min_eq_right (show k ≤ n by omega), Nat.min_eq_left (show k ≤ b.length by omega)]
 rw [List.take_of_length_le (l := es) (by omega)]

section
variable {P : Program} {T : TypeId → TI} {s : St}

theorem cell1_cells {σ : Store} {c : DV} (h : Cell1 σ c) : c.cells = [c] := by cases c <;> first | rfl | exact h.elim

theorem Effect.storeRow (hT : TOK P T) {o : Oper} {t : TypeId} {p x : Operand} (ho : o.op = .store t p x) {id len i off : Nat} (hp : get s.slots p = .rp id len i off) {R : Row} (hR : s.σ.rows[id]? = some (some R))
  (hlen : R.xs.length = len) (hi : i < len) (hne : (T t).ty ≠ .other) (hf : FlatD s.σ (get s.slots x)) (hl : (get s.slots x).cells.length = (T t).size) (h1 : 0 < (T t).size) (hoff : off + (T t).size ≤ R.st) :
  Effect P s o (one .undef { s.σ with rows := s.σ.rows.set id (some { R with xs := R.xs.set i ((R.xs.getD i .undef).over off (get s.slots x).cells) }) }) := by
 intro w0 G a w hr
 have hx := get_rel w hr.2.1 x
 have hc := solid_cells w hr.2.2 hx hf.1
 have hpv := get_rel w hr.2.1 p
 rw [hp] at hpv
 generalize hpe : a.eval p = vp at hpv
 obtain ⟨h0, hall, A, n, c, hA, hn, hcap, hrow⟩ := hr.2.2.rows id R hR
 obtain ⟨g, arr, fr, rfl, hg, hh, hfr, hsz, hcell⟩ := hrow.resolve_left (by omega)
 cases hpv with
 | rp _ _ _ _ _ hid hle hv =>
  obtain ⟨g', n', c', e1, rfl⟩ := hv R hR hlen
  rw [hA] at e1
  injection e1 with e1 _ _; injection e1 with e1; injection e1 with e1; subst e1
  have hcl : (a.eval x).cells.toList.length = (T t).size := by rw [hc.1, hl]
  have hpos : i * R.st + off + (T t).size ≤ arr.size := by
   have : (i + 1) * R.st ≤ c * R.st := Nat.mul_le_mul_right _ (by omega)
   rw [Nat.succ_mul] at this
   omega
  obtain ⟨w', e1, e2, e3⟩ := run_storeCells_blk P g (i * R.st + off) R.e fr (a.eval x).cells.toList 0 arr w hh (by rw [hcl]; omega) hfr (flatD_ones hr.2.2 hc hf.2)
  rw [Nat.add_zero] at e3
  have hne' : ∀ k, G.own k ≠ .row id → k ≠ g := fun k hk e => by subst e; exact hk hg
  obtain ⟨h1, h2⟩ := hr.2.2.row_set (G' := { G with rowV := updN G.rowV id (G.rowV id) }) (w' := w') hR (xs := R.xs.set i ((R.xs.getD i .undef).over off (get s.slots x).cells)) (u := G.rowV id) (by simp) (fun _ => rfl)
   (fun k => .inr (.inl rfl)) (fun _ _ _ => rfl) (fun k hk => .inl hk) rfl rfl rfl
   (by
    have ht := hr.2.2.trk g (by rw [hg]; simp) (by rw [hg]; simp)
    exact hr.2.2.below.trans ⟨e2.os, e2.tape, e2.output, by rw [e2.size]; exact Nat.le_refl _, fun k hk => e2.other k (by omega)⟩)
   (fun k hk => by rw [e2.size]; exact hr.2.2.lt k hk) (fun k _ hk => e2.other k (hne' k hk))
   (by
    intro hE
    have hxl : (R.xs.getD i .undef).cells.length = R.st := by rw [List.getD_eq_getElem?_getD, List.getElem?_eq_getElem (by omega)]; exact hall _ (List.getElem_mem _)
    refine ⟨h0, ?_, some ⟨g, 0, none⟩, n, c, by simp [hA], by simpa using hn, hcap, .inr ⟨g, _, fr, rfl, hg, e3, by simpa [over_len _ _ _ (show i * R.st + off + (a.eval x).cells.toList.length ≤ arr.toList.length by rw [hcl]; simpa using hpos)] using hfr, by simpa [over_len _ _ _ (show i * R.st + off + (a.eval x).cells.toList.length ≤ arr.toList.length by rw [hcl]; simpa using hpos)] using hsz, ?_⟩⟩
    ·intro y hy
     rcases List.mem_or_eq_of_mem_set hy with hy | rfl
     ·exact hall y hy
     ·rw [over_cells (by rw [hl, hxl]; exact hoff) (by omega) (fun c hc => cell1_cells (hf.2 c hc)), over_len _ _ _ (by rw [hl, hxl]; exact hoff), hxl]
    ·intro j d v hd hv
     simp only at hd
     rw [flat_over hall (by omega) (by rw [hl]; exact hoff) (by omega) (fun c hc => cell1_cells (hf.2 c hc))] at hd
     have hfl := flat_len hall
     have hrl : RelL G s.σ w (flat R.xs) (arr.toList.take (flat R.xs).length) := by
      have hfle : (flat R.xs).length ≤ arr.size := by rw [hfl, hsz]; exact Nat.mul_le_mul_right _ (by omega)
      refine ⟨by rw [List.length_take]; exact Nat.min_eq_left (by simpa using hfle), fun j d v hd hv => ?_⟩
      have hj := (List.getElem?_eq_some_iff.1 hd).1
      rw [List.getElem?_take, if_pos hj] at hv
      exact hcell j d v hd (by simpa using hv)
     have := (hrl.over w hc (i * R.st + off)).2 j d v hd (by
      have hj := (List.getElem?_eq_some_iff.1 hd).1
      have hob : i * R.st + off + (get s.slots x).cells.length ≤ (flat R.xs).length := by
       rw [hfl, hl]
       have : (i + 1) * R.st ≤ R.xs.length * R.st := Nat.mul_le_mul_right _ (by omega)
       rw [Nat.succ_mul] at this
       omega
      rw [over_len _ _ _ hob] at hj
      have hv' : (Val.over arr.toList (i * R.st + off) (a.eval x).cells.toList)[j]? = some v := by simpa using hv
      rw [← hv']
      have e4 : (a.eval x).cells.toList.length = (get s.slots x).cells.length := hc.1
      have hal : (flat R.xs).length ≤ arr.toList.length := by
       have := hrl.1
       rw [List.length_take] at this
       omega
      rw [over_take _ _ _ _ (by omega) hal, List.getElem?_take, if_pos hj])
     exact this.ext hE)
  refine ⟨.skip, w', Go.undef, .undef, _, _, ?_, .inr ⟨rfl, rfl⟩, ⟨rfl, rfl⟩, h1, h2, .undef _⟩
  simp only [execOp, ho, hpe, Instr.storeAt, Instr.sureAddr, Sem.run_bind, Sem.run_pure, Result.andThen_ok, storeVar, TOK.size hT w hne]
  rw [if_neg (by rw [← Array.length_toList, hcl]; simp)]
  simp [e1]
end
end Go.Val
end

section
namespace Go.Val
open Go.RowKit
set_option linter.unusedSimpArgs false
set_option linter.unusedVariables false

def notInt : Ty → Bool
  | .int _ => false
  | .other => false
  | _ => true

section
variable {P : Program} {T : TypeId → TI} {s : St}

theorem und_notInt (hT : TOK P T) {t : TypeId} (h : notInt (T t).ty = true) (w : World) : ∃ d, (underlying t).run P w = .ok d w ∧ (match d with | .int _ => true | _ => false) = false := by
  have hne : (T t).ty ≠ .other := by intro e; rw [e] at h; simp [notInt] at h
  obtain ⟨d, hd, hr⟩ := TOK.und hT w rfl hne
  refine ⟨d, hd, ?_⟩
  cases hy : (T t).ty <;> rw [hy] at h hr <;> simp [notInt] at h <;> simp only [TyRel] at hr
  case struct => obtain ⟨gs, rfl, _⟩ := hr; rfl
  case func => obtain ⟨p, r, v, rfl⟩ := hr; rfl
  all_goals subst hr; rfl

theorem run_append_in (hT : TOK P T) {t t2 ty e : TypeId} (ht : (T t).ty = .slice e) (h2 : notInt (T t2).ty = true) (hne : (T e).ty ≠ .other) {w w' : World} {A : Option Addr} {n c m : Nat} {x : Value} {new : Array Value}
    (hl : (Builtin.lenOf x).run P w = .ok m w) (hf : (Builtin.firstCells (T e).size m x).run P w = .ok new w) (hroom : n + m ≤ c)
    (hst : match A with | some a => (storeCells (a.add (n * (T e).size)) new.toList).run P w = .ok () w' | none => w' = w) :
    (Builtin.append_ #[t, t2] ty #[.slice A n c, x]).run P w = .ok (.slice A (n + m) c) w' := by
  obtain ⟨d, hd, hb⟩ := und_notInt hT h2 w
  unfold Builtin.append_
  simp only [List.getElem?_toArray, List.getElem?_cons_zero, List.getElem?_cons_succ, Sem.run_bind, TOK.und_slice hT w ht, Result.andThen_ok, TOK.size hT w hne, hd, Sem.run_pure]
  cases d <;> simp only [reduceCtorEq] at hb <;> simp only [Bool.false_eq_true, if_false, Bool.not_false, if_true, hl, Result.andThen_ok, Sem.run_bind, hf, Sem.run_ite, hroom]
  all_goals
    cases A with
    | none => simp only at hst; subst hst; simp
    | some a => simp only at hst; simp [hst]

theorem run_append_grow (hT : TOK P T) {t t2 ty e : TypeId} (ht : (T t).ty = .slice e) (h2 : notInt (T t2).ty = true) (hne : (T e).ty ≠ .other) {w : World} {A : Option Addr} {n c m : Nat} {x : Value} {old new : Array Value}
    (hl : (Builtin.lenOf x).run P w = .ok m w) (hfo : (Builtin.firstCells (T e).size n (.slice A n c)).run P w.drew = .ok old w.drew) (hf : (Builtin.firstCells (T e).size m x).run P w.drew = .ok new w.drew) (hroom : c < n + m)
    (hsz : (n + m) * (T e).bytes ≤ 140737488355328) (hb : 0 < (T e).bytes) : ∃ nc rest, n + m ≤ nc ∧ rest.size = (nc - (n + m)) * (T e).zero.cells.size ∧
    (Builtin.append_ #[t, t2] ty #[.slice A n c, x]).run P w = .ok (.slice (some ⟨w.heap.size, 0, none⟩) (n + m) nc) (w.drew.alloc (.cells (old ++ new ++ rest) e)) := by
  obtain ⟨d, hd, hbq⟩ := und_notInt hT h2 w
  have hfit := growslice_fits hroom hsz
  obtain ⟨i, hi, hib⟩ := TOK.info hT w hne
  have hmax : ¬ ((n + m : Nat) : Int) > IntKind.i64.max := by
    have h1 : n + m ≤ (n + m) * (T e).bytes := Nat.le_mul_of_pos_right _ hb
    simp only [IntKind.max, IntKind.signed, IntKind.bits]
    simp only [if_true]
    omega
  have hmb : ¬ (Builtin.nextslicecap (n + m) c * i.bytes > 2 ^ 48) := by rw [hib.2.1]; omega
  refine ⟨(Question.appendCap (n + m) c e).cut (w.tape w.drawn (.appendCap (n + m) c e)), Builtin.zeroCells (T e).zero.cells ((Question.appendCap (n + m) c e).cut (w.tape w.drawn (.appendCap (n + m) c e)) - (n + m)), by simp [Question.cut], size_zeroCells _ _, ?_⟩
  have hnr : ¬ (n + m ≤ c) := by omega
  have hz : (zeroValue e).run P w.drew = .ok (T e).zero w.drew := TOK.zero hT w.drew hne
  have hi' : (typeInfo e).run P w.drew = .ok i w.drew := by
    obtain ⟨i', h1, _⟩ := TOK.info hT w.drew hne
    simp only [typeInfo, Sem.run_bind, run_program, Result.andThen_ok] at hi h1 ⊢
    cases hq : P.info? e with
    | none => rw [hq] at hi; simp at hi
    | some j => rw [hq] at hi; simp at hi; simp [hi]
  unfold Builtin.append_
  simp only [List.getElem?_toArray, List.getElem?_cons_zero, List.getElem?_cons_succ, Sem.run_bind, TOK.und_slice hT w ht, Result.andThen_ok, TOK.size hT w hne, hd, Sem.run_pure]
  cases d <;> simp only [reduceCtorEq] at hbq <;> simp only [Bool.false_eq_true, if_false, Bool.not_false, if_true, hl, Result.andThen_ok, Sem.run_bind, Sem.run_ite, hnr, hi, hmax, false_and, hmb, run_choose, Question.forced, run_askRoom, Sem.run_pure,
    World.drew_eq, hfo, hf, hz, hi', newRow, run_newObj, World.alloc_eq, World.size_drew]

structure AppSrc (P : Program) (T : TypeId → TI) (t t2 ty e : TypeId) (x : Value) (m : Nat) (new : Array Value) (w : World) : Prop where
  inn : ∀ (A : Option Addr) (n c : Nat) (w' : World), n + m ≤ c → (match A with | some a => (storeCells (a.add (n * (T e).size)) new.toList).run P w = .ok () w' | none => w' = w) →
    (Builtin.append_ #[t, t2] ty #[.slice A n c, x]).run P w = .ok (.slice A (n + m) c) w'
  grow : ∀ (A : Option Addr) (n c : Nat) (old : Array Value), (Builtin.firstCells (T e).size n (.slice A n c)).run P w.drew = .ok old w.drew → c < n + m → (n + m) * (T e).bytes ≤ 140737488355328 →
    ∃ nc rest, n + m ≤ nc ∧ rest.size = (nc - (n + m)) * (T e).zero.cells.size ∧ (Builtin.append_ #[t, t2] ty #[.slice A n c, x]).run P w = .ok (.slice (some ⟨w.heap.size, 0, none⟩) (n + m) nc) (w.drew.alloc (.cells (old ++ new ++ rest) e))
theorem AppSrc.of (hT : TOK P T) {t t2 ty e : TypeId} (ht : (T t).ty = .slice e) (h2 : notInt (T t2).ty = true) (hne : (T e).ty ≠ .other) (hb : 0 < (T e).bytes) {w : World} {m : Nat} {x : Value} {new : Array Value}
    (h : ∀ w', w'.heap = w.heap → (Builtin.lenOf x).run P w' = .ok m w' ∧ (Builtin.firstCells (T e).size m x).run P w' = .ok new w') : AppSrc P T t t2 ty e x m new w :=
  ⟨fun A n c w' hroom hst => run_append_in hT ht h2 hne (h w rfl).1 (h w rfl).2 hroom hst,
   fun A n c old hfo hroom hsz => run_append_grow hT ht h2 hne (h w rfl).1 hfo (h w.drew rfl).2 hroom hsz hb⟩
end
end Go.Val
end

section
namespace Go.Val
open Go.RowKit
set_option linter.unusedSimpArgs false
set_option linter.unusedVariables false

def srcD (T : TypeId → TI) (σ : Store) (t2 : TypeId) (x : DV) : Option (Prop × List DV) :=
 match (T t2).ty, x with
 | .slice _, .sl ys => some (True, ys)
 | .slice _, .slt ys => some (True, ys)
 | .slice _, .row id len =>
  match σ.rows[id]? with
  | some (some R) => some (R.xs.length = len, R.xs)
  | _ => none
 | .str, .str s => some (True, bytes s)
 | _, _ => none

theorem flat_of_bytes (l : List UInt8) : flat (bytes l) = bytes l := by
 simp only [flat, bytes, List.flatMap_map]
 induction l with
 | nil => rfl
 | cons b l ih => simp only [List.flatMap_cons, List.map_cons, ih]; rfl

section
variable {P : Program} {T : TypeId → TI} {s : St}

theorem srcD_notInt {σ : Store} {t2 : TypeId} {x : DV} {C : Prop} {ys : List DV} (h : srcD T σ t2 x = some (C, ys)) : notInt (T t2).ty = true := by
 unfold srcD at h
 split at h
 ·rename_i h1; rw [h1]; rfl
 ·rename_i h1; rw [h1]; rfl
 ·rename_i h1; rw [h1]; rfl
 ·rename_i h1; rw [h1]; rfl
 ·simp at h

theorem srcD_sound (hT : TOK P T) {w0 : World} {G : Gh} {σ : Store} {w : World} (hS : StoreRel w0 G σ w) {t2 : TypeId} {x : DV} {vx : Value} (hx : RelV G σ w x vx) {C : Prop} {ys : List DV}
  (h : srcD T σ t2 x = some (C, ys)) (hc : C) {st : Nat} (hst : ∀ y ∈ ys, y.cells.length = st) :
  ∃ new : Array Value, RelL G σ w (flat ys) new.toList ∧ ∀ w', w'.heap = w.heap → (Builtin.lenOf vx).run P w' = .ok ys.length w' ∧ (Builtin.firstCells st ys.length vx).run P w' = .ok new w' := by
 have mem : ∀ (A : Option Addr) (c : Nat), (ys = [] ∨ ∃ b o, A = some ⟨b, o, none⟩ ∧ MemAt G σ w b o (flat ys)) →
   ∃ new : Array Value, RelL G σ w (flat ys) new.toList ∧ ∀ w', w'.heap = w.heap → (Builtin.lenOf (.slice A ys.length c)).run P w' = .ok ys.length w' ∧ (Builtin.firstCells st ys.length (.slice A ys.length c)).run P w' = .ok new w' := by
  intro A c hm
  rcases hm with rfl | ⟨b, o, rfl, hm⟩
  ·refine ⟨#[], by simp [flat]; exact .nil, fun w' hw => ⟨rfl, ?_⟩⟩
   cases A with
   | none => rfl
   | some a => simp [Builtin.firstCells, loadCells, loadCellsFrom]
  ·obtain ⟨vs, hr, hv⟩ := hm
   refine ⟨vs.toArray, by simpa using hr, fun w' hw => ⟨rfl, ?_⟩⟩
   have hl : vs.length = ys.length * st := by rw [hr.1, flat_len hst]
   have := run_loadCells_list (P := P) w' ⟨b, o, none⟩ vs (fun j v hj => by
    rw [Addr_add]
    have := hv j v hj
    simp only [World.cell?, hw] at this ⊢
    exact this)
   rw [hl] at this
   simpa [Builtin.firstCells] using this
 unfold srcD at h
 split at h
 ·simp only [Option.some.injEq, Prod.mk.injEq] at h; obtain ⟨_, rfl⟩ := h
  obtain ⟨A, c, _, rfl, _, _, hm⟩ := hx.sl_mem
  exact mem A c (hm.imp id (fun ⟨b, o, h1, _, h2⟩ => ⟨b, o, h1, h2⟩))
 ·simp only [Option.some.injEq, Prod.mk.injEq] at h; obtain ⟨_, rfl⟩ := h
  obtain ⟨A, _, rfl, _, hm⟩ := hx.slt_mem
  exact mem A _ (hm.imp id (fun ⟨b, o, h1, _, h2⟩ => ⟨b, o, h1, h2⟩))
 ·split at h
  ·rename_i R hR
   simp only [Option.some.injEq, Prod.mk.injEq] at h; obtain ⟨rfl, rfl⟩ := h
   cases hx with
   | row _ _ v hid hle hv =>
    rw [hv R hR hc]
    obtain ⟨A, c, e, hm⟩ := row_mem w hS hR
    rw [e]
    exact mem A c (hm.imp id (fun ⟨g, h1, h2⟩ => ⟨g, 0, h1, h2⟩))
  ·simp at h
 ·rename_i l hy
  simp only [Option.some.injEq, Prod.mk.injEq] at h; obtain ⟨_, rfl⟩ := h
  cases hx
  have hz : (⟨l.toArray⟩ : ByteArray).size = (bytes l).length := by simp [ByteArray.size, bytes]
  refine ⟨(l.map fun b => Value.int .u8 b.toNat).toArray, ?_, fun w' hw => ⟨by simp [Builtin.lenOf, hz], ?_⟩⟩
  ·rw [flat_of_bytes]
   refine ⟨by simp [bytes], fun i c v hc hv => ?_⟩
   simp only [bytes, List.getElem?_map, Option.map_eq_some_iff] at hc
   simp only [List.getElem?_map, Option.map_eq_some_iff] at hv
   obtain ⟨b, hb, rfl⟩ := hc
   obtain ⟨b', hb', rfl⟩ := hv
   rw [hb] at hb'; injection hb' with hb'; subst hb'
   exact .int _ _
  ·simp only [Builtin.firstCells, Sem.run_pure, Result.ok.injEq, and_true]
   have : (⟨l.toArray⟩ : ByteArray).extract 0 (bytes l).length = ⟨l.toArray⟩ := by
    rw [str_cut l 0 _ (by omega) (by simp [bytes])]
    simp [bytes]
   rw [this]
   simp
 ·simp at h

theorem row_grow {w0 : World} {G : Gh} {σ : Store} {w : World} (hS : StoreRel w0 G σ w) {id : Nat} {R : Row} (hR : σ.rows[id]? = some (some R)) {ys : List DV} (hst : ∀ y ∈ ys, y.cells.length = R.st)
  {old new rest : Array Value} {nc : Nat} (ho : RelL G σ w (flat R.xs) old.toList) (hn : RelL G σ w (flat ys) new.toList) (hnc : R.xs.length + ys.length ≤ nc) (hrest : rest.size = (nc - (R.xs.length + ys.length)) * R.st)
  (hne : ys ≠ []) :
  ∃ G', StoreRel w0 G' { σ with rows := σ.rows.set id (some { R with xs := R.xs ++ ys }) } (w.drew.alloc (.cells (old ++ new ++ rest) R.e)) ∧
   Ext G σ w G' { σ with rows := σ.rows.set id (some { R with xs := R.xs ++ ys }) } (w.drew.alloc (.cells (old ++ new ++ rest) R.e)) ∧
   G'.rowV id = .slice (some ⟨w.heap.size, 0, none⟩) (R.xs.length + ys.length) nc := by
 have hid := (List.getElem?_eq_some_iff.1 hR).1
 obtain ⟨h0, hall, A, n, c, hA, hn', hcap, hrow⟩ := hS.rows id R hR
 have hyl : 0 < ys.length := List.length_pos_iff.2 hne
 let G' : Gh := { G with own := fun k => if k = w.heap.size then .row id else if G.own k = .row id then .free else G.own k, rowV := updN G.rowV id (.slice (some ⟨w.heap.size, 0, none⟩) (R.xs.length + ys.length) nc) }
 have hown : ∀ k, G'.own k = if k = w.heap.size then .row id else if G.own k = .row id then .free else G.own k := fun _ => rfl
 have hlt : ∀ k, G.own k ≠ .free → k ≠ w.heap.size := fun k hk => by have := hS.lt k hk; omega
 have hsz1 : (w.drew.alloc (.cells (old ++ new ++ rest) R.e)).heap.size = w.heap.size + 1 := by simp
 have hheap : ∀ k, k < w.heap.size → (w.drew.alloc (.cells (old ++ new ++ rest) R.e)).heap[k]? = w.heap[k]? := fun k hk => Below.heap_alloc w.drew _ k hk
 have hflat : flat (R.xs ++ ys) = flat R.xs ++ flat ys := flat_append _ _
 obtain ⟨h1, h2⟩ := hS.row_set (G' := G') (w' := w.drew.alloc (.cells (old ++ new ++ rest) R.e)) hR (xs := R.xs ++ ys) (u := .slice (some ⟨w.heap.size, 0, none⟩) (R.xs.length + ys.length) nc) (by simp)
  (fun e => by simp at e; exact absurd e hne)
  (fun k => by
   by_cases e : k = w.heap.size
   ·exact .inr (.inr ⟨by omega, by rw [hown, if_pos e]⟩)
   ·by_cases e2 : G.own k = .row id
    ·exact .inl e2
    ·exact .inr (.inl (by rw [hown, if_neg e, if_neg e2])))
  (fun k hk hk2 => by rw [hown, if_neg (hlt k hk), if_neg hk2])
  (fun k hk => .inr (by rw [hown, if_neg (hlt k (by rw [hk]; simp)), if_pos hk]))
  rfl rfl rfl
  (hS.below.drew.alloc hS.below.size _)
  (fun k hk => by
   rw [hsz1]
   rw [hown] at hk
   split at hk
   ·omega
   ·split at hk
    ·simp at hk
    ·have := hS.lt k hk; omega)
  (fun k hk _ => hheap k (hS.lt k hk))
  (fun hE => by
   refine ⟨h0, ?_, some ⟨w.heap.size, 0, none⟩, _, nc, by show updN _ _ _ _ = _; rw [updN_same], by simp, by simpa using hnc, .inr ⟨w.heap.size, old ++ new ++ rest, (0, 0), rfl, by rw [hown, if_pos rfl], heap_alloc_new w.drew _, fun k _ h => by simp at h, ?_, ?_⟩⟩
   ·intro y hy
    rcases List.mem_append.1 hy with hy | hy
    ·exact hall y hy
    ·exact hst y hy
   ·have e1 : old.size = R.xs.length * R.st := by rw [← Array.length_toList, ho.1, flat_len hall]
    have e2 : new.size = ys.length * R.st := by rw [← Array.length_toList, hn.1, flat_len hst]
    rw [Array.size_append, Array.size_append, e1, e2, hrest, ← Nat.add_mul, ← Nat.add_mul]
    congr 1
    omega
   ·intro i d v hd hv
    simp only [hflat] at hd
    have hi := (List.getElem?_eq_some_iff.1 hd).1
    have hrel := (ho.append hn).2 i d v hd (by
     rw [← Array.toList_append, Array.getElem?_toList]
     rw [Array.getElem?_append_left (by
      have := (ho.append hn).1
      rw [← Array.toList_append, Array.length_toList] at this
      rw [this]; exact hi)] at hv
     exact hv)
    exact hrel.ext hE)
 exact ⟨G', h1, h2, by show updN _ _ _ _ = _; rw [updN_same]⟩

theorem Effect.appendS (hT : TOK P T) {o : Oper} {c : Call} {x y : Operand} {t t2 e : TypeId} (ho : o.op = .call c) (hcal : c.callee = .builtin .append) (hargs : c.args = #[x, y]) (hts : c.argTypes = #[t, t2])
  {id len : Nat} (hx : get s.slots x = .row id len) {R : Row} (hR : s.σ.rows[id]? = some (some R)) (hl : R.xs.length = len) (ht : (T t).ty = .slice e) (hne : (T e).ty ≠ .other) (he : R.e = e) (hs : R.st = (T e).size) (hzc : (T e).zero.cells.size = (T e).size) (hb : 0 < (T e).bytes)
  {ys : List DV} (hsrc : ∀ w0 G a w, RelS w0 G s a w → ∃ new : Array Value, RelL G s.σ w (flat ys) new.toList ∧ AppSrc P T t t2 o.type e (a.eval y) ys.length new w) (hst : ∀ y ∈ ys, y.cells.length = R.st) (h1 : ∀ c ∈ flat ys, Cell1 s.σ c) (hsz : (len + ys.length) * (T e).bytes ≤ 140737488355328) :
  Effect P s o (one (.row id (len + ys.length)) { s.σ with rows := s.σ.rows.set id (some { R with xs := R.xs ++ ys }) }) := by
 intro w0 G a w hr
 have hid := (List.getElem?_eq_some_iff.1 hR).1
 have hxv := get_rel w hr.2.1 x
 rw [hx] at hxv
 have hxe : a.eval x = G.rowV id := by
  cases hxv with
  | row _ _ v hid hle hv => exact hv R hR hl
 obtain ⟨h0, hall, A, n, cp, hA, hn, hcap, hrow⟩ := hr.2.2.rows id R hR
 obtain ⟨new, hnew, hsr⟩ := hsrc w0 G a w hr
 have hexec : (execOp a.eval o).run P w = ((Builtin.append_ #[t, t2] o.type #[G.rowV id, a.eval y]).run P w).andThen fun v w' => .ok (.value v) w' := by
  simp [execOp, ho, resolve, hcal, hargs, hts, invoke, builtin, hxe]
 have hlen : ys.length * R.st = new.size := by rw [← Array.length_toList, hnew.1, flat_len hst]
 subst he
 by_cases hroom : n + ys.length ≤ cp
 ·-- there is room
  rcases hrow with rfl | ⟨g, arr, fr, rfl, hg, hh, hfr, hsz', hcell⟩
  ·have hy0 : ys = [] := List.eq_nil_of_length_eq_zero (by omega)
   subst hy0
   have hn0 : n = 0 := by omega
   have hR0 : R.xs = [] := List.eq_nil_of_length_eq_zero (by omega)
   have hnil : new = #[] := by
    have := hlen
    simp at this
    exact Array.eq_empty_of_size_eq_zero this.symm
   have hsame : { s.σ with rows := s.σ.rows.set id (some { R with xs := R.xs ++ [] }) } = s.σ := by
    have : s.σ.rows.set id (some { R with xs := R.xs ++ [] }) = s.σ.rows := by
     apply List.ext_getElem?
     intro k
     by_cases e : k = id
     ·subst e; rw [List.getElem?_set_self hid, hR]; simp
     ·rw [List.getElem?_set_ne (Ne.symm e)]
    rw [this]
   rw [hsame]
   refine ⟨.value (.slice A (n + ([] : List DV).length) 0), w, _, _, _, G, ?_, .inl rfl, ⟨rfl, rfl⟩, hr.2.2, Ext.refl _ _ _, ?_⟩
   ·rw [hexec, hA]
    have := hsr.inn A n 0 w (by simpa using hroom)
     (by cases A with
      | none => rfl
      | some ad => rw [hnil]; simp [storeCells])
    rw [this]
    rfl
   ·have e2 : Value.slice A (n + ([] : List DV).length) 0 = G.rowV id := by rw [hA]; rfl
    rw [e2]
    exact .row id _ _ hid (fun R' hR' => by rw [hR] at hR'; injection hR' with hR'; injection hR' with hR'; subst hR'; simp [hl]) (fun _ _ _ => rfl)
  ·have hpos : n * R.st + new.toList.length ≤ arr.size := by
    have : (n + ys.length) * R.st ≤ cp * R.st := Nat.mul_le_mul_right _ hroom
    rw [Nat.add_mul] at this
    rw [Array.length_toList, ← hlen]
    omega
   obtain ⟨w', e1, e2, e3⟩ := run_storeCells_blk P g (n * R.st) R.e fr new.toList 0 arr w hh (by simpa using hpos) hfr (flatD_ones hr.2.2 hnew h1)
   rw [Nat.add_zero] at e3
   have hne' : ∀ k, G.own k ≠ .row id → k ≠ g := fun k hk e => by subst e; exact hk hg
   have hovl : (Val.over arr.toList (n * R.st) new.toList).length = arr.size := by rw [over_len _ _ _ (by simpa using hpos)]; simp
   have hfl := flat_len hall
   obtain ⟨k1, k2⟩ := hr.2.2.row_set (G' := { G with rowV := updN G.rowV id (.slice (some ⟨g, 0, none⟩) (n + ys.length) cp) }) (w' := w') hR (xs := R.xs ++ ys) (u := .slice (some ⟨g, 0, none⟩) (n + ys.length) cp) (by simp)
    (fun e => by simp at e; subst e; rw [hA]; rfl)
    (fun k => .inr (.inl rfl)) (fun _ _ _ => rfl) (fun k hk => .inl hk) rfl rfl rfl
    (by
     have ht := hr.2.2.trk g (by rw [hg]; simp) (by rw [hg]; simp)
     exact hr.2.2.below.trans ⟨e2.os, e2.tape, e2.output, by rw [e2.size]; exact Nat.le_refl _, fun k hk => e2.other k (by omega)⟩)
    (fun k hk => by rw [e2.size]; exact hr.2.2.lt k hk) (fun k _ hk => e2.other k (hne' k hk))
    (by
     intro hE
     refine ⟨h0, ?_, some ⟨g, 0, none⟩, n + ys.length, cp, by simp, by simp [hn], hroom, .inr ⟨g, _, fr, rfl, hg, e3, by simpa [hovl] using hfr, by simpa [hovl] using hsz', ?_⟩⟩
     ·intro z hz
      rcases List.mem_append.1 hz with hz | hz
      ·exact hall z hz
      ·exact hst z hz
     ·intro i d v hd hv
      simp only [flat_append] at hd
      have hi := (List.getElem?_eq_some_iff.1 hd).1
      rw [List.length_append, hfl, flat_len hst] at hi
      have hv' : (Val.over arr.toList (n * R.st) new.toList)[i]? = some v := by simpa using hv
      unfold Val.over at hv'
      have hnl : new.toList.length = ys.length * R.st := by rw [Array.length_toList, hlen]
      have hnm : n * R.st = R.xs.length * R.st := by rw [hn]
      have hpos2 : n * R.st + ys.length * R.st ≤ arr.size := by rw [← hnl]; exact hpos
      have hm : (arr.toList.take (n * R.st)).length = R.xs.length * R.st := by rw [List.length_take, Array.length_toList]; omega
      rcases Nat.lt_or_ge i (flat R.xs).length with hlt | hge
      ·rw [List.getElem?_append_left hlt] at hd
       rw [hfl] at hlt
       rw [List.append_assoc, List.getElem?_append_left (by rw [hm]; exact hlt), List.getElem?_take, if_pos (by rw [hn]; exact hlt)] at hv'
       exact (hcell i d v hd (by simpa using hv')).ext hE
      ·rw [List.getElem?_append_right hge] at hd
       rw [hfl] at hge hd
       rw [List.getElem?_append_left (by rw [List.length_append, hm, hnl]; exact hi), List.getElem?_append_right (by rw [hm]; exact hge), hm] at hv'
       exact (hnew.2 _ d v hd hv').ext hE)
   refine ⟨.value (.slice (some ⟨g, 0, none⟩) (n + ys.length) cp), w', _, _, _, _, ?_, .inl rfl, ⟨rfl, rfl⟩, k1, k2, ?_⟩
   ·rw [hexec, hA, hsr.inn (some ⟨g, 0, none⟩) n cp w' hroom (by show (storeCells ((⟨g, 0, none⟩ : Addr).add (n * (T R.e).size)) new.toList).run P w = _; rw [Addr_add, Nat.zero_add, ← hs]; exact e1)]
    rfl
   ·refine .row id _ _ (by simpa using hid) (fun R' hR' => ?_) (fun R' hR' _ => by simp)
    rw [List.getElem?_set_self hid] at hR'; injection hR' with hR'; injection hR' with hR'; subst hR'
    simp [hl]
 ·-- it moves
  have hyne : ys ≠ [] := by rintro rfl; simp at hroom; omega
  obtain ⟨A', c', e4, hm⟩ := row_mem w hr.2.2 hR
  rw [hA] at e4
  injection e4 with e4 _ e6
  subst e4; subst e6
  have hold : ∃ old : Array Value, RelL G s.σ w (flat R.xs) old.toList ∧ (Builtin.firstCells R.st n (.slice A n cp)).run P w.drew = .ok old w.drew := by
   rcases hm with hnil | ⟨g, rfl, vs, hv1, hv2⟩
   ·refine ⟨#[], by rw [hnil]; exact .nil, ?_⟩
    have hn0 : n = 0 := by rw [hn, hnil]; rfl
    rw [hn0]
    cases A with
    | none => rfl
    | some ad => simp [Builtin.firstCells, loadCells, loadCellsFrom]
   ·refine ⟨vs.toArray, by simpa using hv1, ?_⟩
    have hvl : vs.length = n * R.st := by rw [hv1.1, flat_len hall, hn]
    have := run_loadCells_list (P := P) w.drew ⟨g, 0, none⟩ vs (fun j v hj => by
     rw [Addr_add]
     exact hv2 j v hj)
    rw [hvl] at this
    simpa [Builtin.firstCells] using this
  obtain ⟨old, ho1, ho2⟩ := hold
  obtain ⟨nc, rest, g1, g2, g3⟩ := hsr.grow A n cp old (by rw [← hs]; exact ho2) (by omega) (by rw [hn, hl]; exact hsz)
  obtain ⟨G', k1, k2, k3⟩ := row_grow hr.2.2 hR hst ho1 hnew (by rw [← hn]; exact g1) (by rw [g2, hzc, ← hs, hn]) hyne
  refine ⟨.value (.slice (some ⟨w.heap.size, 0, none⟩) (n + ys.length) nc), _, _, _, _, G', ?_, .inl rfl, ⟨rfl, rfl⟩, k1, k2, ?_⟩
  ·rw [hexec, hA, g3]; rfl
  ·refine .row id _ _ (by simpa using hid) (fun R' hR' => ?_) (fun R' hR' _ => by rw [k3, hn])
   rw [List.getElem?_set_self hid] at hR'; injection hR' with hR'; injection hR' with hR'; subst hR'
   simp [hl]
theorem AppSrc.ofSrc (hT : TOK P T) {t t2 ty e : TypeId} (ht : (T t).ty = .slice e) (hne : (T e).ty ≠ .other) (hb : 0 < (T e).bytes) {y : Operand} {C : Prop} {ys : List DV} (hy : srcD T s.σ t2 (get s.slots y) = some (C, ys)) (hc : C) (hst : ∀ y ∈ ys, y.cells.length = (T e).size) :
  ∀ w0 G a w, RelS w0 G s a w → ∃ new : Array Value, RelL G s.σ w (flat ys) new.toList ∧ AppSrc P T t t2 ty e (a.eval y) ys.length new w := by
 intro w0 G a w hr
 obtain ⟨new, hnew, hrun⟩ := srcD_sound hT hr.2.2 (get_rel w hr.2.1 y) hy hc hst
 exact ⟨new, hnew, .of hT ht (srcD_notInt hy) hne hb hrun⟩
theorem Effect.append (hT : TOK P T) {o : Oper} {c : Call} {x y : Operand} {t t2 e : TypeId} (ho : o.op = .call c) (hcal : c.callee = .builtin .append) (hargs : c.args = #[x, y]) (hts : c.argTypes = #[t, t2])
  {id len : Nat} (hx : get s.slots x = .row id len) {R : Row} (hR : s.σ.rows[id]? = some (some R)) (hl : R.xs.length = len) (ht : (T t).ty = .slice e) (hne : (T e).ty ≠ .other) (he : R.e = e) (hs : R.st = (T e).size) (hzc : (T e).zero.cells.size = (T e).size) (hb : 0 < (T e).bytes)
  {C : Prop} {ys : List DV} (hy : srcD T s.σ t2 (get s.slots y) = some (C, ys)) (hc : C) (hst : ∀ y ∈ ys, y.cells.length = R.st) (h1 : ∀ c ∈ flat ys, Cell1 s.σ c) (hsz : (len + ys.length) * (T e).bytes ≤ 140737488355328) :
  Effect P s o (one (.row id (len + ys.length)) { s.σ with rows := s.σ.rows.set id (some { R with xs := R.xs ++ ys }) }) :=
 Effect.appendS hT ho hcal hargs hts hx hR hl ht hne he hs hzc hb (AppSrc.ofSrc hT ht hne hb hy hc (by rw [← hs]; exact hst)) hst h1 hsz
end
end Go.Val
end

section
namespace Go.Val
open Go.RowKit
set_option linter.unusedSimpArgs false
set_option linter.unusedVariables false

section
variable {P : Program} {T : TypeId → TI} {s : St}

theorem Effect.appendNewS (hT : TOK P T) {o : Oper} {c : Call} {x y : Operand} {t t2 e : TypeId} (ho : o.op = .call c) (hcal : c.callee = .builtin .append) (hargs : c.args = #[x, y]) (hts : c.argTypes = #[t, t2])
  {xs : List DV} (hx : get s.slots x = .slt xs) (ht : (T t).ty = .slice e) (hne : (T e).ty ≠ .other) (hs0 : 0 < (T e).size) (hzc : (T e).zero.cells.size = (T e).size) (hb : 0 < (T e).bytes)
  {ys : List DV} (hsrc : ∀ w0 G a w, RelS w0 G s a w → ∃ new : Array Value, RelL G s.σ w (flat ys) new.toList ∧ AppSrc P T t t2 o.type e (a.eval y) ys.length new w) (hxs : ∀ x ∈ xs, x.cells.length = (T e).size) (hst : ∀ y ∈ ys, y.cells.length = (T e).size) (hnew : xs = [] ∨ ys ≠ []) (hsz : (xs.length + ys.length) * (T e).bytes ≤ 140737488355328) :
  Effect P s o (one (.row s.σ.rows.length (xs.length + ys.length)) { s.σ with rows := s.σ.rows ++ [some ⟨xs ++ ys, e, (T e).size⟩] }) := by
 intro w0 G a w hr
 have hxv := get_rel w hr.2.1 x
 rw [hx] at hxv
 obtain ⟨A, st, hxe, hst', hm⟩ := hxv.slt_mem
 obtain ⟨new, hnew', hsr⟩ := hsrc w0 G a w hr
 have hexec : (execOp a.eval o).run P w = ((Builtin.append_ #[t, t2] o.type #[.slice A xs.length xs.length, a.eval y]).run P w).andThen fun v w' => .ok (.value v) w' := by
  simp [execOp, ho, resolve, hcal, hargs, hts, invoke, builtin, hxe]
 have hlen : ys.length * (T e).size = new.size := by rw [← Array.length_toList, hnew'.1, flat_len hst]
 by_cases hy0 : ys = []
 ·subst hy0
  have hx0 : xs = [] := by rcases hnew with h | h; exact h; exact absurd rfl h
  subst hx0
  have hnil : new = #[] := by
   have := hlen
   simp at this
   exact Array.eq_empty_of_size_eq_zero this.symm
  obtain ⟨G', k1, k2, k3⟩ := hr.2.2.row0 (e := e) hs0 A
  refine ⟨.value (.slice A 0 0), w, _, _, _, G', ?_, .inl rfl, ⟨rfl, rfl⟩, by simpa using k1, by simpa using k2, ?_⟩
  ·rw [hexec]
   have := hsr.inn A 0 0 w (by simp)
    (by cases A with
     | none => rfl
     | some ad => rw [hnil]; simp [storeCells])
   simp only [List.length_nil]
   rw [this]
   rfl
  ·refine .row _ _ _ (by simp) (fun R' hR' => ?_) (fun R' hR' _ => k3.symm)
   simp at hR'
   subst hR'
   simp
 ·have hold : ∃ old : Array Value, RelL G s.σ w (flat xs) old.toList ∧ (Builtin.firstCells (T e).size xs.length (.slice A xs.length xs.length)).run P w.drew = .ok old w.drew := by
   rcases hm with hnil | ⟨b, g, rfl, _, vs, hv1, hv2⟩
   ·refine ⟨#[], by rw [hnil]; exact .nil, ?_⟩
    rw [hnil]
    cases A with
    | none => rfl
    | some ad => simp [Builtin.firstCells, loadCells, loadCellsFrom]
   ·refine ⟨vs.toArray, by simpa using hv1, ?_⟩
    have hvl : vs.length = xs.length * (T e).size := by rw [hv1.1, flat_len hxs]
    have := run_loadCells_list (P := P) w.drew ⟨b, g, none⟩ vs (fun j v hj => by
     rw [Addr_add]
     exact hv2 j v hj)
    rw [hvl] at this
    simpa [Builtin.firstCells] using this
  obtain ⟨old, ho1, ho2⟩ := hold
  have hyl : 0 < ys.length := List.length_pos_iff.2 hy0
  obtain ⟨nc, rest, g1, g2, g3⟩ := hsr.grow A xs.length xs.length old ho2 (by omega) hsz
  obtain ⟨d1, d2⟩ := hr.2.2.drew
  have e1 : old.size = xs.length * (T e).size := by rw [← Array.length_toList, ho1.1, flat_len hxs]
  obtain ⟨G', k1, k2, k3⟩ := d1.row (xs := xs ++ ys) (e := e) (st := (T e).size) (c := nc) (arr := old ++ new ++ rest) hs0
   (by
    intro z hz
    rcases List.mem_append.1 hz with hz | hz
    ·exact hxs z hz
    ·exact hst z hz)
   (by simpa using g1)
   (by
    rw [Array.size_append, Array.size_append, e1, ← hlen, g2, hzc, ← Nat.add_mul, ← Nat.add_mul]
    congr 1
    omega)
   (by
    intro i d v hd hv
    rw [flat_append] at hd
    have hi := (List.getElem?_eq_some_iff.1 hd).1
    have hrel := (ho1.append hnew').2 i d v hd (by
     rw [← Array.toList_append, Array.getElem?_toList]
     rw [Array.getElem?_append_left (by
      have := (ho1.append hnew').1
      rw [← Array.toList_append, Array.length_toList] at this
      rw [this]; exact hi)] at hv
     exact hv)
    exact hrel.ext d2) rfl (fr := (0, 0)) (fun k _ h => by simp at h)
  refine ⟨.value (.slice (some ⟨w.heap.size, 0, none⟩) (xs.length + ys.length) nc), _, _, _, _, G', ?_, .inl rfl, ⟨rfl, rfl⟩, k1, d2.trans k2, ?_⟩
  ·rw [hexec, g3]; rfl
  ·refine .row _ _ _ (by simp) (fun R' hR' => ?_) (fun R' hR' _ => by rw [k3]; simp)
   simp at hR'
   subst hR'
   simp

theorem Effect.appendNew (hT : TOK P T) {o : Oper} {c : Call} {x y : Operand} {t t2 e : TypeId} (ho : o.op = .call c) (hcal : c.callee = .builtin .append) (hargs : c.args = #[x, y]) (hts : c.argTypes = #[t, t2])
  {xs : List DV} (hx : get s.slots x = .slt xs) (ht : (T t).ty = .slice e) (hne : (T e).ty ≠ .other) (hs0 : 0 < (T e).size) (hzc : (T e).zero.cells.size = (T e).size) (hb : 0 < (T e).bytes)
  {C : Prop} {ys : List DV} (hy : srcD T s.σ t2 (get s.slots y) = some (C, ys)) (hc : C) (hxs : ∀ x ∈ xs, x.cells.length = (T e).size) (hst : ∀ y ∈ ys, y.cells.length = (T e).size) (hnew : xs = [] ∨ ys ≠ []) (hsz : (xs.length + ys.length) * (T e).bytes ≤ 140737488355328) :
  Effect P s o (one (.row s.σ.rows.length (xs.length + ys.length)) { s.σ with rows := s.σ.rows ++ [some ⟨xs ++ ys, e, (T e).size⟩] }) :=
 Effect.appendNewS hT ho hcal hargs hts hx ht hne hs0 hzc hb (AppSrc.ofSrc hT ht hne hb hy hc hst) hxs hst hnew hsz

/-! noughts -/
theorem zero_get {z : Array Value} {n i : Nat} {u : Value} (h : ((Array.range (n * z.size)).map fun i => z[i % z.size]!)[i]? = some u) : ∃ hz : i % z.size < z.size, u = z[i % z.size] ∧ i < n * z.size := by
 simp only [Array.getElem?_map, Option.map_eq_some_iff] at h
 obtain ⟨j, hj, rfl⟩ := h
 have hji : j = i ∧ i < n * z.size := by
  have := Array.getElem?_eq_some_iff.1 hj
  obtain ⟨h1, h2⟩ := this
  simp at h1 h2
  exact ⟨h2.symm, h1⟩
 obtain ⟨rfl, hlt⟩ := hji
 have hpos : 0 < z.size := by
  rcases Nat.eq_zero_or_pos z.size with h | h
  ·rw [h] at hlt; simp at hlt
  ·exact h
 exact ⟨Nat.mod_lt _ hpos, by rw [getElem!_pos z (j % z.size) (Nat.mod_lt _ hpos)], hlt⟩

theorem flat_replicate_get {z : DV} {n i : Nat} {d : DV} (h : (flat (List.replicate n z))[i]? = some d) : z.cells[i % z.cells.length]? = some d ∧ i < n * z.cells.length := by
 have hl : (flat (List.replicate n z)).length = n * z.cells.length := by
  rw [flat_len (st := z.cells.length) (by intro x hx; rw [List.eq_of_mem_replicate hx]), List.length_replicate]
 have hi : i < n * z.cells.length := by rw [← hl]; exact (List.getElem?_eq_some_iff.1 h).1
 refine ⟨?_, hi⟩
 have hpos : 0 < z.cells.length := by
  rcases Nat.eq_zero_or_pos z.cells.length with e | e
  ·rw [e] at hi; simp at hi
  ·exact e
 have hk : i / z.cells.length < n := by rw [Nat.div_lt_iff_lt_mul hpos]; exact hi
 have := flat_at (xs := List.replicate n z) (st := z.cells.length) (by intro x hx; rw [List.eq_of_mem_replicate hx]) (i / z.cells.length) (by simpa using hk)
 have e1 : (List.replicate n z).getD (i / z.cells.length) .undef = z := by
  rw [List.getD_eq_getElem?_getD, List.getElem?_replicate, if_pos hk]; rfl
 rw [e1] at this
 have h2 : z.cells[i % z.cells.length]? = ((flat (List.replicate n z)).drop (i / z.cells.length * z.cells.length))[i % z.cells.length]? := by
  have h3 := congrArg (fun l : List DV => l[i % z.cells.length]?) this
  simp only [List.getElem?_take] at h3
  rw [if_pos (Nat.mod_lt _ hpos)] at h3
  exact h3.symm
 rw [h2, List.getElem?_drop, Nat.mul_comm, Nat.div_add_mod]
 exact h

theorem zeros_rel {G : Gh} {σ : Store} {w : World} {z : Value} {n i : Nat} {d : DV} {u : Value} (hd : (flat (List.replicate n (ofVal z)))[i]? = some d) {m : Nat}
  (hu : ((Array.range (m * z.cells.size)).map fun i => z.cells[i % z.cells.size]!)[i]? = some u) : RelV G σ w d u := by
 obtain ⟨h1, _⟩ := flat_replicate_get hd
 obtain ⟨h2, rfl, _⟩ := zero_get hu
 have hr := ofVal_cells (G := G) (σ := σ) (w := w) z
 have hl : (ofVal z).cells.length = z.cells.size := by rw [← hr.1, Array.length_toList]
 rw [hl] at h1
 exact hr.2 _ d _ h1 (by rw [Array.getElem?_toList, Array.getElem?_eq_getElem h2])

theorem wrap_nat {n : Int} (h0 : 0 ≤ n) (h1 : n < 9223372036854775808) : IntKind.i64.wrap n = n := IntWalk.i64_in n (by omega)

theorem Effect.make (hT : TOK P T) {o : Oper} {x y : Operand} {t e : TypeId} (ho : o.op = .makeSlice t x y) (ht : (T t).ty = .slice e) (hne : (T e).ty ≠ .other) (hs0 : 0 < (T e).size) (hzc : (T e).zero.cells.size = (T e).size) (hb : 0 < (T e).bytes)
  {k k' : IntKind} {n m : Int} (hx : get s.slots x = .int k n) (hy : get s.slots y = .int k' m) (h0 : 0 ≤ n) (hnm : n ≤ m) (hsz : m * (T e).bytes ≤ 281474976710656) :
  Effect P s o (one (.row s.σ.rows.length n.toNat) { s.σ with rows := s.σ.rows ++ [some ⟨List.replicate n.toNat (ofVal (T e).zero), e, (T e).size⟩] }) := by
 intro w0 G a w hr
 have hxv := get_rel w hr.2.1 x
 have hyv := get_rel w hr.2.1 y
 rw [hx] at hxv
 rw [hy] at hyv
 generalize hxe : a.eval x = vx at hxv
 generalize hye : a.eval y = vy at hyv
 cases hxv; cases hyv
 have hm1 : m ≤ m * (T e).bytes := by
  have : m * 1 ≤ m * (T e).bytes := Int.mul_le_mul_of_nonneg_left (by omega) (by omega)
  omega
 have hwn : IntKind.i64.wrap n = n := wrap_nat h0 (by omega)
 have hwm : IntKind.i64.wrap m = m := wrap_nat (by omega) (by omega)
 obtain ⟨i, hi, _, hib, _⟩ := TOK.info hT w hne
 have hcl : (ofVal (T e).zero).cells.length = (T e).size := by
  have := (ofVal_cells (G := G) (σ := s.σ) (w := w) (T e).zero).1
  rw [← this, Array.length_toList, hzc]
 obtain ⟨G', k1, k2, k3⟩ := hr.2.2.row (xs := List.replicate n.toNat (ofVal (T e).zero)) (e := e) (st := (T e).size) (c := m.toNat) (arr := (Array.range (m.toNat * (T e).size)).map fun i => (T e).zero.cells[i % (T e).zero.cells.size]!) hs0
  (by intro x hx; rw [List.eq_of_mem_replicate hx]; exact hcl) (by simp; omega) (by simp)
  (fun i d v hd hv => by rw [← hzc] at hv; exact zeros_rel hd hv) rfl (fr := (0, 0)) (fun k _ h => by simp at h)
 have hlarge : ¬ ((decide (m < 0) || decide ((i.bytes : Int) * m > 2 ^ 48)) || decide (n < 0) || decide (n > m)) = true := by
  rw [hib]
  rw [Int.mul_comm] at hsz
  simp
  omega
 refine ⟨.value (.slice (some ⟨w.heap.size, 0, none⟩) n.toNat m.toNat), _, _, _, _, G', ?_, .inl rfl, ⟨rfl, rfl⟩, k1, k2, ?_⟩
 ·by_cases hm0 : m.toNat = 0
  ·simp only [execOp, ho, hxe, hye, Instr.makeSlice, asInt, asIntOf, Sem.run_bind, Sem.run_pure, TOK.und_slice hT w ht, Result.andThen_ok, hi, hwn, hwm, Sem.run_ite, hlarge, if_false, run_askRoom, TOK.size hT w hne, newRow, run_newObj, hm0, Nat.zero_mul, if_true]
   have hz0 : ∀ f : Nat → Value, Array.map f (Array.range 0) = #[] := fun f => by apply Array.eq_empty_of_size_eq_zero; simp
   simp [hz0]
  ·have hne0 : ¬ m.toNat * (T e).size = 0 := by
    have : 0 < m.toNat * (T e).size := Nat.mul_pos (by omega) hs0
    omega
   simp only [execOp, ho, hxe, hye, Instr.makeSlice, asInt, asIntOf, Sem.run_bind, Sem.run_pure, TOK.und_slice hT w ht, Result.andThen_ok, hi, hwn, hwm, Sem.run_ite, hlarge, if_false, run_askRoom, TOK.size hT w hne, newRow, run_newObj, hne0, TOK.zero hT w hne, World.alloc_eq]
   simp
 ·refine .row _ _ _ (by simp) (fun R' hR' => ?_) (fun R' hR' _ => by rw [k3]; simp)
  simp at hR'
  subst hR'
  simp

theorem AppSrc.zeros (hT : TOK P T) {t t2 ty e : TypeId} {k : IntKind} (ht : (T t).ty = .slice e) (h2 : (T t2).ty = .int k) (hne : (T e).ty ≠ .other) (hs0 : 0 < (T e).size) (hzc : (T e).zero.cells.size = (T e).size) (hb : 0 < (T e).bytes) {y : Operand} {k' : IntKind} {n : Int}
  (hy : get s.slots y = .int k' n) (h0 : 0 ≤ n) (hsz : n * (T e).bytes ≤ 140737488355328) :
  ∀ w0 G a w, RelS w0 G s a w → ∃ new : Array Value, RelL G s.σ w (flat (List.replicate n.toNat (ofVal (T e).zero))) new.toList ∧ AppSrc P T t t2 ty e (a.eval y) (List.replicate n.toNat (ofVal (T e).zero)).length new w := by
 intro w0 G a w hr
 have hyv := get_rel w hr.2.1 y
 rw [hy] at hyv
 generalize hye : a.eval y = vy at hyv
 cases hyv
 have hn1 : n ≤ n * (T e).bytes := by
  have : n * 1 ≤ n * (T e).bytes := Int.mul_le_mul_of_nonneg_left (by omega) (by omega)
  omega
 have hwn : IntKind.i64.wrap n = n := wrap_nat h0 (by omega)
 have hcl : (ofVal (T e).zero).cells.length = (T e).size := by
  have := (ofVal_cells (G := G) (σ := s.σ) (w := w) (T e).zero).1
  rw [← this, Array.length_toList, hzc]
 have hlt : ¬ n < 0 := by omega
 have hbig : ¬ n * ((T e).bytes : Int) > 2 ^ 48 := by omega
 have hzsz : (Builtin.zeroCells (T e).zero.cells n.toNat).size = n.toNat * (T e).size := by rw [size_zeroCells, hzc]
 have happ : ∀ w' : World, (if n.toNat * (T e).size = 0 then Result.ok #[] w' else ((zeroValue e).run P w').andThen fun a w'' => Result.ok (Builtin.zeroCells a.cells n.toNat) w'') = Result.ok (Builtin.zeroCells (T e).zero.cells n.toNat) w' := by
  intro w'
  by_cases hz : n.toNat * (T e).size = 0
  ·rw [if_pos hz]
   have : Builtin.zeroCells (T e).zero.cells n.toNat = #[] := Array.eq_empty_of_size_eq_zero (by rw [hzsz, hz])
   rw [this]
  ·rw [if_neg hz, TOK.zero hT w' hne]; rfl
 have und2 : ∀ w' : World, (underlying t2).run P w' = .ok (.int k) w' := fun w' => TOK.und_int hT w' h2
 refine ⟨Builtin.zeroCells (T e).zero.cells n.toNat, ⟨?_, fun i d v hd hv => ?_⟩, ?_⟩
 ·rw [Array.length_toList, hzsz, flat_len (st := (T e).size) (by intro x hx; rw [List.eq_of_mem_replicate hx]; exact hcl), List.length_replicate]
 ·rw [Array.getElem?_toList] at hv
  exact zeros_rel hd hv
 ·rw [List.length_replicate]
  refine ⟨fun A n' c w' hroom hst => ?_, fun A n' c old hfo hroom hsz' => ?_⟩
  ·obtain ⟨i, hi, hi1, hi2, hi3⟩ := TOK.info hT w hne
   unfold Builtin.append_
   simp only [List.getElem?_toArray, List.getElem?_cons_zero, List.getElem?_cons_succ, Sem.run_bind, TOK.und_slice hT w ht, Result.andThen_ok, TOK.size hT w hne, und2, Sem.run_pure, if_true, asInt, asIntOf, hwn, Sem.run_ite, hlt, if_false, hi, hi2, hbig, hroom,
    Bool.not_true, Bool.false_eq_true]
   rw [happ w]
   simp only [Result.andThen_ok]
   cases A with
   | none => simp only at hst ⊢; subst hst; rfl
   | some ad => simp only at hst ⊢; rw [Sem.run_bind, hst]; rfl
  ·have hfit := growslice_fits hroom hsz'
   obtain ⟨i, hi, hi1, hi2, hi3⟩ := TOK.info hT w hne
   have hmax : ¬ ((n' + n.toNat : Nat) : Int) > IntKind.i64.max := by
    have h1 : n' + n.toNat ≤ (n' + n.toNat) * (T e).bytes := Nat.le_mul_of_pos_right _ hb
    simp only [IntKind.max, IntKind.signed, IntKind.bits]
    simp only [if_true]
    omega
   have hmb : ¬ (Builtin.nextslicecap (n' + n.toNat) c * i.bytes > 2 ^ 48) := by rw [hi2]; omega
   have hnr : ¬ (n' + n.toNat ≤ c) := by omega
   have hz : (zeroValue e).run P w.drew = .ok (T e).zero w.drew := TOK.zero hT w.drew hne
   have hi' : (typeInfo e).run P w.drew = .ok i w.drew := by
    obtain ⟨i', h1, _⟩ := TOK.info hT w.drew hne
    simp only [typeInfo, Sem.run_bind, run_program, Result.andThen_ok] at hi h1 ⊢
    cases hq : P.info? e with
    | none => rw [hq] at hi; simp at hi
    | some j => rw [hq] at hi; simp at hi; simp [hi]
   refine ⟨(Question.appendCap (n' + n.toNat) c e).cut (w.tape w.drawn (.appendCap (n' + n.toNat) c e)), Builtin.zeroCells (T e).zero.cells ((Question.appendCap (n' + n.toNat) c e).cut (w.tape w.drawn (.appendCap (n' + n.toNat) c e)) - (n' + n.toNat)), by simp [Question.cut], size_zeroCells _ _, ?_⟩
   have happ' := happ w.drew
   rw [hz] at happ'
   unfold Builtin.append_
   simp only [List.getElem?_toArray, List.getElem?_cons_zero, List.getElem?_cons_succ, Sem.run_bind, TOK.und_slice hT w ht, Result.andThen_ok, TOK.size hT w hne, und2, Sem.run_pure, if_true, asInt, asIntOf, hwn, Sem.run_ite, hlt, if_false, hi, hi2, hbig, hnr,
    Bool.not_true, Bool.false_eq_true, hmax, false_and, run_choose, Question.forced, run_askRoom, World.drew_eq, hfo, hz, hi', newRow, run_newObj, World.alloc_eq, World.size_drew]
   rw [hi2] at hmb
   simp only [hmb, if_false, Result.andThen_ok]
   simp only [Result.andThen_ok] at happ'
   rw [happ']
   simp only [Result.andThen_ok, hz, World.size_drew]
end
end Go.Val
end

section
namespace Go.Val
open Go.RowKit
set_option linter.unusedSimpArgs false
set_option linter.unusedVariables false

def frz1 (id : Nat) (xs : List DV) : DV → DV
 | .row i len => if i = id ∧ len = xs.length then .sl xs else .row i len
 | d => d
def frz (id : Nat) (xs : List DV) : DV → DV
 | .row i len => if i = id ∧ len = xs.length then .sl xs else .row i len
 | .agg cs => .agg (cs.map (frz1 id xs))
 | .tup cs => .tup (cs.map (frz1 id xs))
 | d => d
def bfz1 (b : Nat) (cs : List DV) : DV → DV
 | .ptr i off => if i = b then .cp (cs.drop off) else .ptr i off
 | d => d
def bfz (b : Nat) (cs : List DV) : DV → DV
 | .ptr i off => if i = b then .cp (cs.drop off) else .ptr i off
 | .fn f fs ds => .fn f (fs.map (bfz1 b cs)) (ds.map (bfz1 b cs))
 | d => d

def St.freeze (s : St) (id : Nat) (xs : List DV) : St :=
 ⟨s.slots.map (frz id xs), { s.σ with rows := s.σ.rows.set id none, boxes := s.σ.boxes.map (Option.map fun B => { B with cs := B.cs.map (frz1 id xs) }) }⟩
def St.fix (s : St) (b : Nat) (cs : List DV) : St :=
 ⟨s.slots.map (bfz b cs), { s.σ with boxes := (s.σ.boxes.set b none).map (Option.map fun B => { B with cs := B.cs.map (bfz b cs) }) }⟩

section
variable {P : Program} {T : TypeId → TI} {s : St} {w0 : World} {G : Gh} {σ : Store} {w : World}

theorem RelL.map {cs : List DV} {vs : List Value} {G' : Gh} {σ' : Store} {w' : World} {f : DV → DV} (h : RelL G σ w cs vs) (hf : ∀ d v, RelV G σ w d v → RelV G' σ' w' (f d) v) : RelL G' σ' w' (cs.map f) vs := by
 refine ⟨by simpa using h.1, fun i c v hc hv => ?_⟩
 simp only [List.getElem?_map, Option.map_eq_some_iff] at hc
 obtain ⟨d, hd, rfl⟩ := hc
 exact hf d v (h.2 i d v hd hv)

theorem StoreRel.freeze (hS : StoreRel w0 G s.σ w) {id : Nat} {R : Row} (hR : s.σ.rows[id]? = some (some R)) :
  ∃ G', StoreRel w0 G' (s.freeze id R.xs).σ w ∧ Ext G s.σ w G' (s.freeze id R.xs).σ w ∧ (∀ d v, RelV G s.σ w d v → RelV G' (s.freeze id R.xs).σ w (frz id R.xs d) v) := by
 have hid := (List.getElem?_eq_some_iff.1 hR).1
 let G' : Gh := { G with own := fun k => if G.own k = .row id then .imm else G.own k }
 have hown : ∀ k, G'.own k = if G.own k = .row id then .imm else G.own k := fun _ => rfl
 have hx : Ext G s.σ w G' (s.freeze id R.xs).σ w := by
  refine ⟨fun k hk => ⟨by rw [hown, if_neg (by rw [hk]; simp)]; exact hk, rfl⟩, by simp [St.freeze], by simp [St.freeze], Nat.le_refl _, fun i R' hi hR' => ?_, fun _ _ => rfl, fun _ _ => rfl, fun k hk => ⟨by rw [hown, if_neg (by rw [hk]; simp)]; exact hk, rfl⟩⟩
  simp only [St.freeze] at hR'
  by_cases e : i = id
  ·subst e; rw [List.getElem?_set_self hid] at hR'; simp at hR'
  ·rw [List.getElem?_set_ne (Ne.symm e)] at hR'
   exact ⟨R', hR', rfl, Nat.le_refl _, fun _ => rfl⟩
 have hrow : RelV G' (s.freeze id R.xs).σ w (.sl R.xs) (G.rowV id) := by
  obtain ⟨h0, hall, A, n, c, hA, hn, hcap, hrow⟩ := hS.rows id R hR
  obtain ⟨A', c', e4, hm⟩ := row_mem w hS hR
  rw [hA] at e4
  injection e4 with e4 _ e6
  subst e4; subst e6
  rw [hA, hn]
  refine RelV.sl_mk (by omega) hall ?_
  rcases hm with h | ⟨g, rfl, hm⟩
  ·exact .inl h
  ·rcases Nat.eq_zero_or_pos c with hc | hc
   ·exact .inl (List.eq_nil_of_length_eq_zero (by omega))
   ·obtain ⟨g', arr, fr, e, hg, _⟩ := hrow.resolve_left (by omega)
    injection e with e; injection e with e
    subst e
    obtain ⟨vs, h1, h2⟩ := hm
    exact .inr ⟨g, 0, rfl, by rw [hown, if_pos hg], vs, h1.ext hx, h2⟩
 have h1 : ∀ d v, RelV G s.σ w d v → RelV G' (s.freeze id R.xs).σ w (frz1 id R.xs d) v := by
  intro d v h
  cases d with
  | row i len =>
   simp only [frz1]
   split
   ·rename_i e
    obtain ⟨rfl, rfl⟩ := e
    cases h with
    | row _ _ _ hid hle hv => rw [hv R hR rfl]; exact hrow
   ·exact h.ext hx
  | _ => exact h.ext hx
 have h2 : ∀ d v, RelV G s.σ w d v → RelV G' (s.freeze id R.xs).σ w (frz id R.xs d) v := by
  intro d v h
  cases d with
  | row i len => exact h1 (.row i len) v h
  | agg cs =>
   cases h with
   | agg _ vs hl hr => have := RelL.map (f := frz1 id R.xs) ⟨hl, hr⟩ h1; exact .agg _ _ this.1 this.2
  | tup cs =>
   cases h with
   | tup _ vs hl hr => have := RelL.map (f := frz1 id R.xs) ⟨hl, hr⟩ h1; exact .tup _ _ this.1 this.2
  | _ => exact h.ext hx
 refine ⟨G', ⟨hS.below, fun k hk => ?_, fun k hk hi => ?_, fun i R' hR' => ?_, fun i B hB => ?_, fun i M hM => ?_⟩, hx, h2⟩
 ·rw [hown] at hk
  split at hk
  ·rename_i e; exact hS.lt k (by rw [e]; simp)
  ·exact hS.lt k hk
 ·rw [hown] at hk hi
  split at hk
  ·rename_i e; rw [if_pos e] at hi; exact absurd rfl hi
  ·rename_i e; rw [if_neg e] at hi; exact hS.trk k hk hi
 ·simp only [St.freeze] at hR'
  by_cases e : i = id
  ·subst e; rw [List.getElem?_set_self hid] at hR'; simp at hR'
  ·rw [List.getElem?_set_ne (Ne.symm e)] at hR'
   exact (hS.rows i R' hR').keep hx rfl (fun k hk => ⟨by rw [hown, if_neg (by rw [hk]; simpa using e)]; exact hk, rfl⟩)
 ·simp only [St.freeze, List.getElem?_map] at hB
  simp only [Option.map_eq_some_iff] at hB
  obtain ⟨oB, hoB, hB⟩ := hB
  cases oB with
  | none => simp at hB
  | some B0 =>
   simp at hB
   subst hB
   obtain ⟨ho, arr, hh, hrel⟩ := hS.boxes i B0 hoB
   exact ⟨by rw [hown, if_neg (by rw [ho]; simp)]; exact ho, arr, hh, hrel.map h1⟩
 ·exact (hS.maps i M hM).keep hx rfl (fun k hk => ⟨by rw [hown, if_neg (by rw [hk]; simp)]; exact hk, rfl⟩)

theorem StoreRel.fix (hS : StoreRel w0 G s.σ w) {b : Nat} {B : Box} (hB : s.σ.boxes[b]? = some (some B)) :
  ∃ G', StoreRel w0 G' (s.fix b B.cs).σ w ∧ Ext G s.σ w G' (s.fix b B.cs).σ w ∧ (∀ d v, RelV G s.σ w d v → RelV G' (s.fix b B.cs).σ w (bfz b B.cs d) v) := by
 have hid := (List.getElem?_eq_some_iff.1 hB).1
 let G' : Gh := { G with own := fun k => if G.own k = .box b then .imm else G.own k }
 have hown : ∀ k, G'.own k = if G.own k = .box b then .imm else G.own k := fun _ => rfl
 have hx : Ext G s.σ w G' (s.fix b B.cs).σ w :=
  ⟨fun k hk => ⟨by rw [hown, if_neg (by rw [hk]; simp)]; exact hk, rfl⟩, by simp [St.fix], by simp [St.fix], Nat.le_refl _, fun i R' hi hR' => ⟨R', hR', rfl, Nat.le_refl _, fun _ => rfl⟩, fun _ _ => rfl, fun _ _ => rfl, fun k hk => ⟨by rw [hown, if_neg (by rw [hk]; simp)]; exact hk, rfl⟩⟩
 obtain ⟨hob, _⟩ := hS.boxes b B hB
 have hptr : ∀ off, RelV G' (s.fix b B.cs).σ w (.cp (B.cs.drop off)) (.pointer (some ⟨G.boxB b, off, none⟩)) := by
  intro off
  have hm := (box_mem w hS hB).drop off
  rw [Nat.zero_add] at hm
  obtain ⟨vs, h1, h2⟩ := hm
  exact RelV.cp_mk (by rw [hown, if_pos hob]) ⟨vs, h1.ext hx, h2⟩
 have h1 : ∀ d v, RelV G s.σ w d v → RelV G' (s.fix b B.cs).σ w (bfz1 b B.cs d) v := by
  intro d v h
  cases d with
  | ptr i off =>
   simp only [bfz1]
   split
   ·rename_i e
    subst e
    cases h with
    | ptr _ _ hb => exact hptr off
   ·exact h.ext hx
  | _ => exact h.ext hx
 have h2 : ∀ d v, RelV G s.σ w d v → RelV G' (s.fix b B.cs).σ w (bfz b B.cs d) v := by
  intro d v h
  cases d with
  | ptr i off => exact h1 (.ptr i off) v h
  | fn f fs cs =>
   cases h with
   | fn _ _ _ us vs hf hF hl hr =>
    have k1 := RelL.map (f := bfz1 b B.cs) ⟨hf, hF⟩ h1
    have k2 := RelL.map (f := bfz1 b B.cs) ⟨hl, hr⟩ h1
    exact .fn _ _ _ _ _ k1.1 k1.2 k2.1 k2.2
  | _ => exact h.ext hx
 refine ⟨G', ⟨hS.below, fun k hk => ?_, fun k hk hi => ?_, fun i R' hR' => ?_, fun i B' hB' => ?_, fun i M hM => ?_⟩, hx, h2⟩
 ·rw [hown] at hk
  split at hk
  ·rename_i e; exact hS.lt k (by rw [e]; simp)
  ·exact hS.lt k hk
 ·rw [hown] at hk hi
  split at hk
  ·rename_i e; rw [if_pos e] at hi; exact absurd rfl hi
  ·rename_i e; rw [if_neg e] at hi; exact hS.trk k hk hi
 ·exact (hS.rows i R' hR').keep hx rfl (fun k hk => ⟨by rw [hown, if_neg (by rw [hk]; simp)]; exact hk, rfl⟩)
 ·simp only [St.fix, List.getElem?_map, Option.map_eq_some_iff] at hB'
  obtain ⟨oB, hoB, hB'⟩ := hB'
  cases oB with
  | none => simp at hB'
  | some B0 =>
   simp at hB'
   subst hB'
   have hne : i ≠ b := by
    intro e
    subst e
    rw [List.getElem?_set_self hid] at hoB
    simp at hoB
   rw [List.getElem?_set_ne (Ne.symm hne)] at hoB
   obtain ⟨ho, arr, hh, hrel⟩ := hS.boxes i B0 hoB
   exact ⟨by rw [hown, if_neg (by rw [ho]; simpa using hne)]; exact ho, arr, hh, hrel.map h2⟩
 ·exact (hS.maps i M hM).keep hx rfl (fun k hk => ⟨by rw [hown, if_neg (by rw [hk]; simp)]; exact hk, rfl⟩)

theorem Ev_le {Q : Exit → St → Prop} {c : Code} {slots' : List DV} (hle : LeL s.slots slots') (h : Ev P c ⟨slots', s.σ⟩ Q) : Ev P c s Q :=
 fun w0 G0 σ0 W0 G a w hx hr => h w0 G0 σ0 W0 G a w hx ⟨hr.1, hle _ _ _ _ hr.2.1, hr.2.2⟩

end
end Go.Val
end

section
namespace Go.Val
open Go.RowKit
set_option linter.unusedSimpArgs false
set_option linter.unusedVariables false

mutual
def DV.named (r b m : Nat) : DV → Bool
 | .undef | .int .. | .bool _ | .str _ | .nilp | .nilfn => true
 | .agg cs | .tup cs | .sl cs | .slt cs | .cp cs => nameds r b m cs
 | .fn _ fs cs => nameds r b m fs && nameds r b m cs
 | .row id _ => decide (id < r)
 | .rp id _ _ _ => decide (id < r)
 | .ptr id _ => decide (id < b)
 | .mp id => decide (id < m)
 | .it id => decide (id < m)
 | .cm ks vs => nameds r b m ks && nameds r b m vs
def nameds (r b m : Nat) : List DV → Bool
 | [] => true
 | c :: cs => DV.named r b m c && nameds r b m cs
end

mutual
theorem named_mono {r b m r' b' m' : Nat} (hr : r ≤ r') (hb : b ≤ b') (hm : m ≤ m') : ∀ d : DV, d.named r b m = true → d.named r' b' m' = true
 | .undef, _ => rfl
 | .int .., _ => rfl
 | .bool _, _ => rfl
 | .str _, _ => rfl
 | .nilp, _ => rfl
 | .nilfn, _ => rfl
 | .agg cs, h => by simp only [DV.named] at h ⊢; exact nameds_mono hr hb hm cs h
 | .tup cs, h => by simp only [DV.named] at h ⊢; exact nameds_mono hr hb hm cs h
 | .sl cs, h => by simp only [DV.named] at h ⊢; exact nameds_mono hr hb hm cs h
 | .slt cs, h => by simp only [DV.named] at h ⊢; exact nameds_mono hr hb hm cs h
 | .cp cs, h => by simp only [DV.named] at h ⊢; exact nameds_mono hr hb hm cs h
 | .fn _ fs cs, h => by simp only [DV.named, Bool.and_eq_true] at h ⊢; exact ⟨nameds_mono hr hb hm fs h.1, nameds_mono hr hb hm cs h.2⟩
 | .row .., h => by simp only [DV.named, decide_eq_true_eq] at h ⊢; omega
 | .rp .., h => by simp only [DV.named, decide_eq_true_eq] at h ⊢; omega
 | .ptr .., h => by simp only [DV.named, decide_eq_true_eq] at h ⊢; omega
 | .mp _, h => by simp only [DV.named, decide_eq_true_eq] at h ⊢; omega
 | .it _, h => by simp only [DV.named, decide_eq_true_eq] at h ⊢; omega
 | .cm fs cs, h => by simp only [DV.named, Bool.and_eq_true] at h ⊢; exact ⟨nameds_mono hr hb hm fs h.1, nameds_mono hr hb hm cs h.2⟩
theorem nameds_mono {r b m r' b' m' : Nat} (hr : r ≤ r') (hb : b ≤ b') (hm : m ≤ m') : ∀ ds : List DV, nameds r b m ds = true → nameds r' b' m' ds = true
 | [], _ => rfl
 | d :: ds, h => by simp only [nameds, Bool.and_eq_true] at h ⊢; exact ⟨named_mono hr hb hm d h.1, nameds_mono hr hb hm ds h.2⟩
end

theorem nameds_iff {r b m : Nat} {cs : List DV} : nameds r b m cs = true ↔ ∀ c ∈ cs, c.named r b m = true := by
 induction cs with
 | nil => simp [nameds]
 | cons c cs ih => simp [nameds, ih]
theorem nameds_append {r b m : Nat} {cs ds : List DV} : nameds r b m (cs ++ ds) = (nameds r b m cs && nameds r b m ds) := by
 induction cs with
 | nil => simp [nameds]
 | cons c cs ih => simp [nameds, ih, Bool.and_assoc]

theorem nameds_flat {r b m : Nat} {xs : List DV} : nameds r b m (flat xs) = nameds r b m xs := by
 induction xs with
 | nil => simp [flat]
 | cons x xs ih =>
  simp only [flat, List.flatMap_cons] at *
  rw [nameds_append, ih]
  simp only [nameds]
  congr 1
  cases x <;> simp [DV.cells, nameds, DV.named]

def Store.trunc (σ : Store) (r b m : Nat) : Store := ⟨σ.rows.take r, σ.boxes.take b, σ.maps.take m⟩

section
variable {P : Program} {T : TypeId → TI} {w0 : World} {G : Gh} {σ : Store} {w : World}

theorem RelV.named {d : DV} {v : Value} (h : RelV G σ w d v) : d.named σ.rows.length σ.boxes.length σ.maps.length = true := by
 have lst : ∀ {cs : List DV} {P : DV → Prop}, (∀ (i : Nat) c, cs[i]? = some c → c.named σ.rows.length σ.boxes.length σ.maps.length = true) → nameds σ.rows.length σ.boxes.length σ.maps.length cs = true := by
  intro cs _ h
  rw [nameds_iff]
  intro c hc
  obtain ⟨i, hi⟩ := List.mem_iff_getElem?.1 hc
  exact h i c hi
 have lst2 : ∀ {cs : List DV} {vs : List Value}, vs.length = cs.length → (∀ (i : Nat) c v, cs[i]? = some c → vs[i]? = some v → c.named σ.rows.length σ.boxes.length σ.maps.length = true) → nameds σ.rows.length σ.boxes.length σ.maps.length cs = true := by
  intro cs vs hl h
  refine lst (P := fun _ => True) (fun i c hc => ?_)
  have hi : i < vs.length := by rw [hl]; exact (List.getElem?_eq_some_iff.1 hc).1
  exact h i c _ hc (List.getElem?_eq_getElem hi)
 induction h with
 | undef v => rfl
 | int k n => rfl
 | bool b => rfl
 | str s => rfl
 | agg cs vs hl _ ih => simp only [DV.named]; exact lst2 hl ih
 | tup cs vs hl _ ih => simp only [DV.named]; exact lst2 hl ih
 | sl xs A n c st b o vs hn hc hA hst hm hr ih => simp only [DV.named]; rw [← nameds_flat]; exact lst (P := fun _ => True) ih
 | slt xs A n st b o vs hn hA hst hm hr ih => simp only [DV.named]; rw [← nameds_flat]; exact lst (P := fun _ => True) ih
 | row id len v hid hle h => simpa [DV.named] using hid
 | ptr b off hb => simpa [DV.named] using hb
 | cp cs b o vs him hm hr ih => simp only [DV.named]; exact lst (P := fun _ => True) ih
 | rp id len i off v hid hle h => simpa [DV.named] using hid
 | nilp => rfl
 | fn f fs cs us vs hf _ hl _ ihF ih => simp only [DV.named, Bool.and_eq_true]; exact ⟨lst2 hf ihF, lst2 hl ih⟩
 | nilfn => rfl
 | mp id hid => simpa [DV.named] using hid
 | it id hid => simpa [DV.named] using hid
 | cm ks vs k clock es him hh h1 h2 hk hv hb hn ihk ihv =>
  simp only [DV.named, Bool.and_eq_true]
  refine ⟨lst (P := fun _ => True) (fun i c hc => ?_), lst (P := fun _ => True) (fun i c hc => ?_)⟩
  ·have hi : i < es.size := by rw [h1]; exact (List.getElem?_eq_some_iff.1 hc).1
   exact ihk i c _ hc (Array.getElem?_eq_getElem hi)
  ·have hi : i < es.size := by rw [h2]; exact (List.getElem?_eq_some_iff.1 hc).1
   exact ihv i c _ hc (Array.getElem?_eq_getElem hi)

theorem RelV.trunc {r b m : Nat} {d : DV} {v : Value} (h : RelV G σ w d v) (hr : r ≤ σ.rows.length) (hb : b ≤ σ.boxes.length) (hm : m ≤ σ.maps.length) (hd : d.named r b m = true) : RelV G (σ.trunc r b m) w d v := by
 have lst : ∀ {cs : List DV}, nameds r b m cs = true → ∀ (i : Nat) c, cs[i]? = some c → c.named r b m = true := by
  intro cs h i c hc
  exact nameds_iff.1 h c (List.mem_of_getElem? hc)
 induction h with
 | undef v => exact .undef v
 | int k n => exact .int k n
 | bool b => exact .bool b
 | str s => exact .str s
 | agg cs vs hl _ ih => simp only [DV.named] at hd; exact .agg cs vs hl (fun i c v hc hv => ih i c v hc hv (lst hd i c hc))
 | tup cs vs hl _ ih => simp only [DV.named] at hd; exact .tup cs vs hl (fun i c v hc hv => ih i c v hc hv (lst hd i c hc))
 | sl xs A n c st b o vs hn hc hA hst hm hr ih => simp only [DV.named] at hd; rw [← nameds_flat] at hd; exact .sl xs A n c st b o vs hn hc hA hst hm (fun i d he => ih i d he (lst hd i d he))
 | slt xs A n st b o vs hn hA hst hm hr ih => simp only [DV.named] at hd; rw [← nameds_flat] at hd; exact .slt xs A n st b o vs hn hA hst hm (fun i d he => ih i d he (lst hd i d he))
 | row id len v hid hle h =>
  simp only [DV.named, decide_eq_true_eq] at hd
  have e : ∀ R, (σ.trunc r b m).rows[id]? = some (some R) → σ.rows[id]? = some (some R) := fun R hR => by
   simp only [Store.trunc, List.getElem?_take] at hR
   rwa [if_pos hd] at hR
  exact .row id len v (by simp [Store.trunc]; omega) (fun R hR => hle R (e R hR)) (fun R hR => h R (e R hR))
 | ptr b' off hb' => simp only [DV.named, decide_eq_true_eq] at hd; exact .ptr b' off (by simp [Store.trunc]; omega)
 | cp cs b o vs him hm hr ih => simp only [DV.named] at hd; exact .cp cs b o vs him hm (fun i d he => ih i d he (lst hd i d he))
 | rp id len i off v hid hle h =>
  simp only [DV.named, decide_eq_true_eq] at hd
  have e : ∀ R, (σ.trunc r b m).rows[id]? = some (some R) → σ.rows[id]? = some (some R) := fun R hR => by
   simp only [Store.trunc, List.getElem?_take] at hR
   rwa [if_pos hd] at hR
  exact .rp id len i off v (by simp [Store.trunc]; omega) (fun R hR => hle R (e R hR)) (fun R hR => h R (e R hR))
 | nilp => exact .nilp
 | fn f fs cs us vs hf _ hl _ ihF ih =>
  simp only [DV.named, Bool.and_eq_true] at hd
  exact .fn f fs cs us vs hf (fun i c v hc hv => ihF i c v hc hv (lst hd.1 i c hc)) hl (fun i c v hc hv => ih i c v hc hv (lst hd.2 i c hc))
 | nilfn => exact .nilfn
 | mp id hid => simp only [DV.named, decide_eq_true_eq] at hd; exact .mp id (by simp [Store.trunc]; omega)
 | it id hid => simp only [DV.named, decide_eq_true_eq] at hd; exact .it id (by simp [Store.trunc]; omega)
 | cm ks vs k clock es him hh h1 h2 hk hv hb hn ihk ihv =>
  simp only [DV.named, Bool.and_eq_true] at hd
  exact .cm ks vs k clock es him hh h1 h2 (fun i d e he hq => ihk i d e he hq (lst hd.1 i d he)) (fun i d e he hq => ihv i d e he hq (lst hd.2 i d he)) hb hn

structure Named (σ : Store) (r b m : Nat) : Prop where
 rows : ∀ (id : Nat) R, σ.rows[id]? = some (some R) → nameds r b m R.xs = true
 boxes : ∀ (id : Nat) B, σ.boxes[id]? = some (some B) → nameds r b m B.cs = true
 maps : ∀ (id : Nat) M, σ.maps[id]? = some (some M) → ∀ p ∈ M, p.1.named r b m = true ∧ p.2.named r b m = true

structure Named2 (σ τ : Store) (r b m : Nat) : Prop where
 rows : ∀ (id : Nat) R, τ.rows[id]? = some (some R) → σ.rows[id]? = some (some R) ∨ nameds r b m R.xs = true
 boxes : ∀ (id : Nat) B, τ.boxes[id]? = some (some B) → σ.boxes[id]? = some (some B) ∨ nameds r b m B.cs = true
 maps : ∀ (id : Nat) M, τ.maps[id]? = some (some M) → σ.maps[id]? = some (some M) ∨ ∀ p ∈ M, p.1.named r b m = true ∧ p.2.named r b m = true

theorem RowRel.names {id : Nat} {R : Row} (hS : StoreRel w0 G σ w) (h : σ.rows[id]? = some (some R)) : nameds σ.rows.length σ.boxes.length σ.maps.length R.xs = true := by
 obtain ⟨A, c, _, hm⟩ := row_mem w hS h
 rcases hm with he | ⟨g, _, vs, hr, _⟩
 ·rw [he]; rfl
 ·rw [← nameds_flat, nameds_iff]
  intro d hd
  obtain ⟨i, hi⟩ := List.mem_iff_getElem?.1 hd
  obtain ⟨v, _, hv⟩ := hr.get hi
  exact hv.named
theorem RelL.names {cs : List DV} {vs : List Value} (hr : RelL G σ w cs vs) : nameds σ.rows.length σ.boxes.length σ.maps.length cs = true := by
 rw [nameds_iff]
 intro d hd
 obtain ⟨i, hi⟩ := List.mem_iff_getElem?.1 hd
 obtain ⟨v, _, hv⟩ := hr.get hi
 exact hv.named
theorem StoreRel.names (hS : StoreRel w0 G σ w) : Named σ σ.rows.length σ.boxes.length σ.maps.length := by
 refine ⟨fun id R h => RowRel.names hS h, fun id B h => ?_, fun id M h p hp => ?_⟩
 ·obtain ⟨_, arr, _, hr⟩ := hS.boxes id B h
  exact hr.names
 ·obtain ⟨_, ⟨_, es, clock, _, hz, hr, _⟩ | ⟨ks, vs, is, _, _, _, _, _, _, rfl, hcm, _⟩⟩ := hS.maps id M h
  rotate_left
  ·have hcn := hcm.named
   simp only [iterL, List.mem_cons, List.mem_map] at hp
   rcases hp with rfl | ⟨i, _, rfl⟩
   ·exact ⟨rfl, hcn⟩
   ·exact ⟨rfl, rfl⟩
  obtain ⟨i, hi⟩ := List.mem_iff_getElem?.1 hp
  have hlt : i < es.size := by rw [hz]; exact (List.getElem?_eq_some_iff.1 hi).1
  obtain ⟨h1, h2⟩ := hr i _ p (Array.getElem?_eq_getElem hlt) hi
  exact ⟨h1.named, h2.named⟩

theorem RelL.trunc {r b m : Nat} {cs : List DV} {vs : List Value} (h : RelL G σ w cs vs) (hr : r ≤ σ.rows.length) (hb : b ≤ σ.boxes.length) (hm : m ≤ σ.maps.length) (hd : nameds r b m cs = true) : RelL G (σ.trunc r b m) w cs vs :=
 ⟨h.1, fun i c v hc hv => (h.2 i c v hc hv).trunc hr hb hm (nameds_iff.1 hd c (List.mem_of_getElem? hc))⟩

theorem StoreRel.trunc (hS : StoreRel w0 G σ w) {r b m : Nat} (hr : r ≤ σ.rows.length) (hb : b ≤ σ.boxes.length) (hm : m ≤ σ.maps.length) (hn : Named (σ.trunc r b m) r b m) : StoreRel w0 G (σ.trunc r b m) w := by
 refine ⟨hS.below, hS.lt, hS.trk, fun id R h => ?_, fun id B h => ?_, fun id M h => ?_⟩
 ·have hns := hn.rows id R h
  simp only [Store.trunc, List.getElem?_take] at h
  split at h
  ·obtain ⟨h0, h1, A, n, c, hA, hn', hc, hrow⟩ := hS.rows id R h
   refine ⟨h0, h1, A, n, c, hA, hn', hc, hrow.imp (fun h => h) (fun ⟨g, arr, fr, h2, h3, h4, h5, h6, h7⟩ => ⟨g, arr, fr, h2, h3, h4, h5, h6, fun i d v hd hv => (h7 i d v hd hv).trunc hr hb hm ?_⟩)⟩
   rw [← nameds_flat] at hns
   exact nameds_iff.1 hns d (List.mem_of_getElem? hd)
  ·simp at h
 ·have hns := hn.boxes id B h
  simp only [Store.trunc, List.getElem?_take] at h
  split at h
  ·obtain ⟨h0, arr, h1, h2⟩ := hS.boxes id B h
   exact ⟨h0, arr, h1, h2.trunc hr hb hm hns⟩
  ·simp at h
 ·have hns := hn.maps id M h
  simp only [Store.trunc, List.getElem?_take] at h
  split at h
  ·obtain ⟨h0, ⟨g0, es, clock, h1, h2, h3, h4⟩ | ⟨ks, vs, is, k, es, clock, since, last, seen, h1, h2, h3⟩⟩ := hS.maps id M h
   ·exact ⟨h0, .inl ⟨g0, es, clock, h1, h2, fun i e p he hp => ⟨(h3 i e p he hp).1.trunc hr hb hm (hns p (List.mem_of_getElem? hp)).1, (h3 i e p he hp).2.trunc hr hb hm (hns p (List.mem_of_getElem? hp)).2⟩, h4⟩⟩
   ·exact ⟨h0, .inr ⟨ks, vs, is, k, es, clock, since, last, seen, h1, h2.trunc hr hb hm (hns (.nilfn, .cm ks vs) (by rw [h1]; simp [iterL])).2, h3⟩⟩
  ·simp at h

theorem Ext.trunc {G' : Gh} {σ' : Store} {w' : World} (hx : Ext G σ w G' σ' w') : Ext G σ w G' (σ'.trunc σ.rows.length σ.boxes.length σ.maps.length) w' := by
 have e1 := hx.rowsLen
 have e2 := hx.boxesLen
 have e3 := hx.mapsLen
 refine ⟨hx.imm, by simp only [Store.trunc, List.length_take]; omega, by simp only [Store.trunc, List.length_take]; omega, by simp only [Store.trunc, List.length_take]; omega, fun id R' hid hR' => ?_, hx.boxB, hx.mapB, hx.dfr⟩
 simp only [Store.trunc, List.getElem?_take] at hR'
 rw [if_pos hid] at hR'
 exact hx.rowV id R' hid hR'

theorem Does.clean {f : FuncId} {args : List DV} {R : DV → Store → Prop} (h : Does P f args σ R)
  (hq : ∀ r σ', R r σ' → r.named σ.rows.length σ.boxes.length σ.maps.length = true ∧ Named2 σ (σ'.trunc σ.rows.length σ.boxes.length σ.maps.length) σ.rows.length σ.boxes.length σ.maps.length) :
  Does P f args σ (fun r τ => ∃ σ', R r σ' ∧ τ = σ'.trunc σ.rows.length σ.boxes.length σ.maps.length) := by
 intro w0 G vs w hS hr
 refine (h w0 G vs w hS hr).mono ?_
 rintro e w' ⟨v, r, σ', G', he, hR, hS', hE, hv⟩
 obtain ⟨h1, h2⟩ := hq r σ' hR
 have hn := hS.names
 refine ⟨v, r, _, G', he, ⟨σ', hR, rfl⟩, hS'.trunc hE.rowsLen hE.boxesLen hE.mapsLen ⟨fun id R h => ?_, fun id B h => ?_, fun id M h => ?_⟩, hE.trunc, hv.trunc hE.rowsLen hE.boxesLen hE.mapsLen h1⟩
 ·rcases h2.rows id R h with h3 | h3
  ·exact hn.rows id R h3
  ·exact h3
 ·rcases h2.boxes id B h with h3 | h3
  ·exact hn.boxes id B h3
  ·exact h3
 ·rcases h2.maps id M h with h3 | h3
  ·exact hn.maps id M h3
  ·exact h3

def Pure (P : Program) (f : FuncId) (args : List DV) (d : DV) : Prop := ∀ σ, Does P f args σ (one d σ)

theorem Pure.of {f : FuncId} {args : List DV} {d : DV} (hd : d.named 0 0 0 = true) (h : ∀ σ, Does P f args σ (fun r σ' => r = d ∧ ∃ rs bs ms, σ' = ⟨σ.rows ++ rs, σ.boxes ++ bs, σ.maps ++ ms⟩)) : Pure P f args d := by
 intro σ
 have hmono : ∀ r b m, d.named r b m = true := fun r b m => named_mono (Nat.zero_le _) (Nat.zero_le _) (Nat.zero_le _) d hd
 refine (Does.clean (h σ) ?_).mono ?_
 ·rintro r σ' ⟨rfl, rs, bs, ms, rfl⟩
  refine ⟨hmono _ _ _, ⟨fun id R h => .inl ?_, fun id B h => .inl ?_, fun id M h => .inl ?_⟩⟩
  ·simpa [Store.trunc] using h
  ·simpa [Store.trunc] using h
  ·simpa [Store.trunc] using h
 ·rintro r τ ⟨σ', ⟨rfl, rs, bs, ms, rfl⟩, rfl⟩
  exact ⟨rfl, by simp [Store.trunc]⟩

theorem Does.own {f : FuncId} {args : List DV} {xs : List DV} {e : TypeId} {st : Nat} (hxs : nameds 0 0 0 xs = true)
  (h : Does P f args σ (fun r σ' => ∃ id, σ.rows.length ≤ id ∧ r = .row id xs.length ∧ σ'.rows[id]? = some (some ⟨xs, e, st⟩) ∧ ∃ rs bs ms, σ' = ⟨σ.rows ++ rs, σ.boxes ++ bs, σ.maps ++ ms⟩)) :
  Does P f args σ (one (.row σ.rows.length xs.length) { σ with rows := σ.rows ++ [some ⟨xs, e, st⟩] }) := by
 intro w0 G vs w hS hr
 refine (h w0 G vs w hS hr).mono ?_
 rintro ed w' ⟨v, r, σ', G', he, ⟨id, hid, rfl, hrow, rs, bs, ms, hσ⟩, hS', hE, hv⟩
 have htr : σ'.trunc σ.rows.length σ.boxes.length σ.maps.length = σ := by rw [hσ]; simp [Store.trunc]
 have hSt := hS'.trunc hE.rowsLen hE.boxesLen hE.mapsLen (by rw [htr]; exact hS.names)
 have hEt := hE.trunc
 rw [htr] at hSt hEt
 have hv2 : v = G'.rowV id := by
  cases hv with
  | row _ _ _ h1 h2 h3 => exact h3 _ hrow rfl
 obtain ⟨h0, hall, A, n, c, hA, hn, hc, hr2⟩ := hS'.rows id _ hrow
 have hR : ∀ (i : Nat) d u, (flat xs)[i]? = some d → RelV G' σ' w' d u → RelV G' σ w' d u := by
  intro i d u hd hu
  have := hu.trunc hE.rowsLen hE.boxesLen hE.mapsLen (named_mono (Nat.zero_le _) (Nat.zero_le _) (Nat.zero_le _) d (by
   rw [← nameds_flat] at hxs
   exact nameds_iff.1 hxs d (List.mem_of_getElem? hd)))
  rwa [htr] at this
 have hnone : ∀ k, σ.rows[σ.rows.length]? = some k → False := fun k hk => by simp at hk
 let G2 : Gh := { G' with own := fun k => if G'.own k = .row id then .row σ.rows.length else if G'.own k = .row σ.rows.length then .free else G'.own k, rowV := updN G'.rowV σ.rows.length v }
 have hown : ∀ k, G2.own k = if G'.own k = .row id then .row σ.rows.length else if G'.own k = .row σ.rows.length then .free else G'.own k := fun _ => rfl
 have keepO : ∀ k, (∀ i, σ.rows.length ≤ i → G'.own k ≠ .row i) → G2.own k = G'.own k := fun k hk => by
  rw [hown, if_neg (hk id hid), if_neg (hk _ (Nat.le_refl _))]
 have x2 : Ext G' σ w' G2 { σ with rows := σ.rows ++ [some ⟨xs, e, st⟩] } w' := by
  refine ⟨fun k hk => ⟨by rw [keepO k (fun i _ => by rw [hk]; simp)]; exact hk, rfl⟩, by simp, Nat.le_refl _, Nat.le_refl _, fun i R' hi hR' => ?_, fun _ _ => rfl, fun _ _ => rfl, fun k hk => ⟨by rw [keepO k (fun i _ => by rw [hk]; simp)]; exact hk, rfl⟩⟩
  rw [List.getElem?_append_left hi] at hR'
  exact ⟨R', hR', rfl, Nat.le_refl _, fun _ => by show updN _ _ _ _ = _; rw [updN_ne _ _ (by omega)]⟩
 refine ⟨v, _, _, G2, he, ⟨rfl, rfl⟩, ⟨hS'.below, fun k hk => ?_, fun k hk hi => ?_, fun i R hRi => ?_, fun i B hB => ?_, fun i M hM => ?_⟩, hEt.trans x2, ?_⟩
 ·rw [hown] at hk
  split at hk
  ·rename_i e; exact hS'.lt k (by rw [e]; simp)
  ·split at hk
   ·simp at hk
   ·exact hS'.lt k hk
 ·rw [hown] at hk hi
  split at hk
  ·rename_i e; exact hS'.trk k (by rw [e]; simp) (by rw [e]; simp)
  ·rename_i e1
   rw [if_neg e1] at hi
   split at hk
   ·simp at hk
   ·rename_i e2; rw [if_neg e2] at hi; exact hS'.trk k hk hi
 ·rcases Nat.lt_trichotomy i σ.rows.length with hlt | rfl | hgt
  ·simp only at hRi
   rw [List.getElem?_append_left hlt] at hRi
   exact (hSt.rows i R hRi).keep x2 (by show updN _ _ _ _ = _; rw [updN_ne _ _ (by omega)]) (fun k hk => ⟨by rw [keepO k (fun j hj => by rw [hk]; simp; omega)]; exact hk, rfl⟩)
  ·simp at hRi
   subst hRi
   refine ⟨h0, hall, A, n, c, by show updN _ _ _ _ = _; rw [updN_same, hv2, hA], hn, hc, hr2.imp (fun h => h) (fun ⟨g, arr, fr, h2, h3, h4, h5, h6, h7⟩ => ⟨g, arr, fr, h2, by rw [hown, if_pos h3], h4, h5, h6, fun i d u hd hu => (hR i d u hd (h7 i d u hd hu)).ext x2⟩)⟩
  ·simp only at hRi
   rw [List.getElem?_eq_none (by simp; omega)] at hRi
   simp at hRi
 ·exact (hSt.boxes i B hB).keep x2 rfl (fun k hk => ⟨by rw [keepO k (fun j hj => by rw [hk]; simp)]; exact hk, rfl⟩)
 ·exact (hSt.maps i M hM).keep x2 rfl (fun k hk => ⟨by rw [keepO k (fun j hj => by rw [hk]; simp)]; exact hk, rfl⟩)
 ·refine .row _ _ _ (by simp) (fun R hR => ?_) (fun R hR _ => by show v = updN _ _ _ _; rw [updN_same])
  simp at hR
  subst hR
  simp
def PureOwn (P : Program) (f : FuncId) (args : List DV) (xs : List DV) (e : TypeId) (st : Nat) : Prop :=
 ∀ σ, Does P f args σ (one (.row σ.rows.length xs.length) { σ with rows := σ.rows ++ [some ⟨xs, e, st⟩] })
end
end Go.Val
end
