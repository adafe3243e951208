/- New memory that is only read: slices written out, texts as octets. -/
import Derived.Test.YtloeeiamgaljoaaVRun
import Derived.Laws.IdiomStrings
namespace Go.Val
open Go.RowKit
set_option linter.unusedSimpArgs false
set_option linter.unusedVariables false

section
variable {P : Program} {T : TypeId → TI} {w0 : World} {G : Gh} {σ : Store} {w : World}
theorem StoreRel.newImm (h : StoreRel w0 G σ w) (o : Obj) :
    StoreRel w0 { G with own := updN G.own w.heap.size .imm } σ (w.alloc o) ∧ Ext G σ w { G with own := updN G.own w.heap.size .imm } σ (w.alloc o) := by
  have hold : ∀ k ω', G.own k = ω' → ω' ≠ .free → updN G.own w.heap.size .imm k = ω' ∧ (w.alloc o).heap[k]? = w.heap[k]? := fun k ω' hk hf => by
    have hlt := h.lt k (by rw [hk]; exact hf)
    exact ⟨by rw [updN_ne _ _ (by omega)]; exact hk, Below.heap_alloc _ _ _ hlt⟩
  have hx : Ext G σ w { G with own := updN G.own w.heap.size .imm } σ (w.alloc o) :=
    ⟨fun k hk => hold k _ hk (by simp), Nat.le_refl _, Nat.le_refl _, Nat.le_refl _, fun _ R _ h => ⟨R, h, rfl, Nat.le_refl _, fun _ => rfl⟩, fun _ _ => rfl, fun _ _ => rfl⟩
  refine ⟨⟨h.below.alloc h.below.size o, fun k hk => ?_, fun k hk hi => ?_, fun id R hR => (h.rows id R hR).keep hx rfl (fun k hk => hold k _ hk (by simp)), fun id B hB => (h.boxes id B hB).keep hx rfl (fun k hk => hold k _ hk (by simp)), fun id M hM => (h.maps id M hM).keep hx rfl (fun k hk => hold k _ hk (by simp))⟩, hx⟩
  · simp only [World.size_alloc]
    by_cases e : k = w.heap.size
    · omega
    · simp only [updN_ne _ _ e] at hk
      have := h.lt k hk
      omega
  · by_cases e : k = w.heap.size
    · rw [e]; exact h.below.size
    · simp only [updN_ne _ _ e] at hk hi
      exact h.trk k hk hi

/-- Cells in groups, one for each element. -/
def groupsD (agg : Bool) (sz n : Nat) (cs : List DV) : List DV :=
  (List.range n).map fun i => if agg then .agg ((cs.drop (i * sz)).take sz) else cs.getD i .undef

def newD (T : TypeId → TI) (σ : Store) (slots : List DV) (op : Op) : Option (Prop × DV) :=
  match op with
  | .buildSlice t len parts =>
    match (T t).ty with
    | .slice e =>
      match fillD T (fun i => some (i * (T e).size, (T e).size)) σ (flat (List.replicate len (ofVal (T e).zero))) (parts.toList.map fun p => (p.1, get slots p.2)) with
      | some (C, cs) => some ((T e).ty ≠ .other ∧ len * (T e).size ≤ 16777216 ∧ 0 < (T e).size ∧ (T e).zero.cells.size = (T e).size ∧ flat (groupsD (T e).isAgg (T e).size len cs) = cs ∧
          (∀ x ∈ groupsD (T e).isAgg (T e).size len cs, x.cells.length = (T e).size) ∧ C, .slt (groupsD (T e).isAgg (T e).size len cs))
      | none => none
    | _ => none
  | .convert src dst x =>
    match (T dst).ty, get slots x with
    | .slice e, .str s => some ((T src).ty = .str ∧ (T e).ty = .int .u8, .sl (bytes s))
    | _, _ => none
  | _ => none

theorem flat_bytes_of (s : List UInt8) : flat (bytes s) = bytes s := by
  induction s with
  | nil => rfl
  | cons b s ih => simp only [flat, bytes, List.map_cons, List.flatMap_cons, DV.cells, List.singleton_append] at *; rw [ih]

theorem MemAt.alloc (w : World) {cs : List DV} {arr : Array Value} {t : TypeId} {fr : Nat × Nat} {G : Gh} (h : ∀ (i : Nat) d, cs[i]? = some d → ∃ v, arr[i]? = some v ∧ RelV G σ (w.alloc (.cells arr t fr)) d v) :
    MemAt G σ (w.alloc (.cells arr t fr)) w.heap.size 0 cs := by
  have hcell : ∀ i, (w.alloc (.cells arr t fr)).cell? ⟨w.heap.size, 0 + i, none⟩ = arr[i]? := by
    intro i
    unfold World.cell?
    rw [show (w.alloc (.cells arr t fr)).heap[w.heap.size]? = some (.cells arr t fr) from heap_alloc_new w _]
    simp
  refine MemAt.of_fun (vs := fun i => (arr[i]?).getD Go.undef) (fun i hi => ?_) (fun i d hd => ?_)
  · obtain ⟨v, hv, _⟩ := h i _ (List.getElem?_eq_getElem hi)
    rw [hcell i, hv]; rfl
  · obtain ⟨v, hv, hr⟩ := h i d hd
    rw [hv]; exact hr

/-- The row that is written out. -/
theorem build_run (hT : TOK P T) {slots : List DV} {a : Act} {t e : TypeId} {len : Nat} {parts : Array (Nat × Operand)} (ht : (T t).ty = .slice e) {C' : Prop} {cs : List DV} (hr : RelS w0 G ⟨slots, σ⟩ a w)
    (hf : fillD T (fun i => some (i * (T e).size, (T e).size)) σ (flat (List.replicate len (ofVal (T e).zero))) (parts.toList.map fun p => (p.1, get slots p.2)) = some (C', cs))
    (hne : (T e).ty ≠ .other) (hsz : len * (T e).size ≤ 16777216) (hzc : (T e).zero.cells.size = (T e).size) (hc : C') :
    ∃ rs : Array Value, (Instr.buildSlice t len (parts.map fun (i, x) => (i, a.eval x))).run P w = .ok (.slice (some ⟨w.heap.size, 0, none⟩) len len) (w.alloc (.cells rs e)) ∧ RelL G σ w cs rs.toList := by
  obtain ⟨z, hzr⟩ : ∃ z : Array Value, z = (if len * (T e).size = 0 then #[] else (T e).zero.cells) := ⟨_, rfl⟩
  have hrel0 : RelL G σ w (flat (List.replicate len (ofVal (T e).zero))) ((Array.range (len * (T e).size)).map (z[· % z.size]!)).toList := by
    have hcl : (ofVal (T e).zero).cells.length = (T e).size := by
      have := (ofVal_cells (G := G) (σ := σ) (w := w) (T e).zero).1
      rw [← this, Array.length_toList, hzc]
    have hlen : (flat (List.replicate len (ofVal (T e).zero))).length = len * (T e).size := by
      rw [flat_len (st := (T e).size) (fun x hx => by rw [List.eq_of_mem_replicate hx]; exact hcl)]; simp
    refine ⟨by simp [hlen], fun i c v hi hv => ?_⟩
    have hlt := (List.getElem?_eq_some_iff.1 hi).1
    rw [hlen] at hlt
    rw [if_neg (by omega)] at hzr
    subst hzr
    rw [Array.getElem?_toList] at hv
    rw [← hzc] at hv
    exact zeros_rel hi hv
  have hparts : RelL G σ w ((parts.toList.map fun p => (p.1, get slots p.2)).map (·.2)) (((parts.map fun (p : Nat × Operand) => (p.1, a.eval p.2)).toList).map (·.2)) := by
    have := gets_rel w hr.2.1 (parts.map (·.2))
    simpa [gets, List.map_map, Function.comp_def] using this
  obtain ⟨rs, hrs, hrel⟩ := fill_sound (T := T) w hr.2.2 _ ((parts.map fun (p : Nat × Operand) => (p.1, a.eval p.2)).toList) _ _ _ _ (by simp [List.map_map, Function.comp_def]) hparts hrel0 hf hc
  refine ⟨rs, ?_, hrel⟩
  simp only [Instr.buildSlice, Sem.run_bind, TOK.und_slice hT w ht, Result.andThen_ok, TOK.size hT w hne, Sem.run_ite, Sem.run_pure]
  rw [if_neg (by omega)]
  by_cases h0 : len * (T e).size = 0
  · rw [if_pos h0] at hzr ⊢
    subst hzr
    rw [hrs]
    simp [newRow]
  · rw [if_neg h0] at hzr ⊢
    subst hzr
    simp only [TOK.zero hT w hne, Result.andThen_ok]
    rw [hrs]
    simp [newRow]

theorem Quiet.new (hT : TOK P T) {σ : Store} {slots : List DV} {o : Oper} {C : Prop} {d : DV} (h : newD T σ slots o.op = some (C, d)) (hc : C) : Quiet P σ slots o d := by
  intro w0 G a w K Qr hr hK
  unfold newD at h
  split at h
  · rename_i t len parts ho
    split at h
    · rename_i e ht
      split at h
      · rename_i C' cs hf
        simp only [Option.some.injEq, Prod.mk.injEq] at h; obtain ⟨rfl, rfl⟩ := h
        obtain ⟨hne, hsz, hs0, hzc, hfl, hst, hc⟩ := hc
        generalize hxs : groupsD (T e).isAgg (T e).size len cs = xs at *
        have hxl : xs.length = len := by rw [← hxs]; simp [groupsD]
        obtain ⟨rs, hrs, hrel⟩ := build_run hT ht hr hf hne hsz hzc hc
        have hrun : (execOp a.eval o).run P w = .ok (.value (.slice (some ⟨w.heap.size, 0, none⟩) len len)) (w.alloc (.cells rs e)) := by
          simp only [execOp, ho, Sem.run_bind, hrs, Result.andThen_ok]
          rfl
        simp only [Oper.wp, hrun, Oper.upon]
        obtain ⟨k1, k2⟩ := hr.2.2.newImm (.cells rs e)
        refine hK _ _ _ k1 k2 ?_
        have := RelV.slt_mk (A := some ⟨w.heap.size, 0, none⟩) (G := { G with own := updN G.own w.heap.size .imm }) (σ := σ) (w := w.alloc (.cells rs e)) (xs := xs) hst
          (.inr ⟨w.heap.size, 0, rfl, by simp, MemAt.alloc w (fun i d hd => by
            rw [hfl] at hd
            have hi : i < rs.size := by have := (List.getElem?_eq_some_iff.1 hd).1; rw [← hrel.1] at this; simpa using this
            exact ⟨rs[i], Array.getElem?_eq_getElem hi, (hrel.2 i d _ hd (by simp)).ext k2⟩)⟩)
        rw [hxl] at this
        exact this
      · simp at h
    · simp at h
  · rename_i src dst x ho
    split at h
    · rename_i e s hd hx
      simp only [Option.some.injEq, Prod.mk.injEq] at h; obtain ⟨rfl, rfl⟩ := h
      obtain ⟨h1, h2⟩ := hc
      have hv := get_rel w hr.2.1 x
      rw [hx] at hv
      generalize hxe : a.eval x = vx at hv
      cases hv
      have hsz : (⟨s.toArray⟩ : ByteArray).size = s.length := by show s.toArray.size = _; simp
      have hrun : (execOp a.eval o).run P w = .ok (.value (.slice (some ⟨w.heap.size, 0, none⟩) s.length (grownCap w s.length 0 e)))
          (w.drew.alloc (.cells (bytesRow ⟨s.toArray⟩ (grownCap w s.length 0 e)) e ((bytesRow ⟨s.toArray⟩ (grownCap w s.length 0 e)).size, (bytesRow ⟨s.toArray⟩ (grownCap w s.length 0 e)).size + 1))) := by
        have := run_bytes_of_string (P := P) w src dst e ⟨s.toArray⟩ (TOK.undP_str hT h1) (TOK.undP_slice hT hd) (TOK.undP_int hT h2)
        rw [hsz] at this
        simp only [execOp, ho, hxe, Sem.run_bind, this, Result.andThen_ok]
        rfl
      simp only [Oper.wp, hrun, Oper.upon]
      have d1 : StoreRel w0 G σ w.drew := ⟨hr.2.2.below.drew, hr.2.2.lt, hr.2.2.trk, fun id R hR => (hr.2.2.rows id R hR).keep (w' := w.drew) ⟨fun _ h => ⟨h, rfl⟩, Nat.le_refl _, Nat.le_refl _, Nat.le_refl _, fun _ R _ h => ⟨R, h, rfl, Nat.le_refl _, fun _ => rfl⟩, fun _ _ => rfl, fun _ _ => rfl⟩ rfl (fun _ hk => ⟨hk, rfl⟩),
        fun id B hB => (hr.2.2.boxes id B hB).keep (w' := w.drew) ⟨fun _ h => ⟨h, rfl⟩, Nat.le_refl _, Nat.le_refl _, Nat.le_refl _, fun _ R _ h => ⟨R, h, rfl, Nat.le_refl _, fun _ => rfl⟩, fun _ _ => rfl, fun _ _ => rfl⟩ rfl (fun _ hk => ⟨hk, rfl⟩), fun id M hM => (hr.2.2.maps id M hM).keep (w' := w.drew) ⟨fun _ h => ⟨h, rfl⟩, Nat.le_refl _, Nat.le_refl _, Nat.le_refl _, fun _ R _ h => ⟨R, h, rfl, Nat.le_refl _, fun _ => rfl⟩, fun _ _ => rfl, fun _ _ => rfl⟩ rfl (fun _ hk => ⟨hk, rfl⟩)⟩
      have d2 : Ext G σ w G σ w.drew := ⟨fun _ h => ⟨h, rfl⟩, Nat.le_refl _, Nat.le_refl _, Nat.le_refl _, fun _ R _ h => ⟨R, h, rfl, Nat.le_refl _, fun _ => rfl⟩, fun _ _ => rfl, fun _ _ => rfl⟩
      obtain ⟨k1, k2⟩ := d1.newImm (.cells (bytesRow ⟨s.toArray⟩ (grownCap w s.length 0 e)) e ((bytesRow ⟨s.toArray⟩ (grownCap w s.length 0 e)).size, (bytesRow ⟨s.toArray⟩ (grownCap w s.length 0 e)).size + 1))
      refine hK _ _ _ k1 (d2.trans k2) ?_
      have hbl : (bytes s).length = s.length := by simp [bytes]
      have hcap : (bytes s).length ≤ grownCap w s.length 0 e := by rw [hbl]; exact grownCap_ge w s.length 0 e
      have := RelV.sl_mk (A := some ⟨w.heap.size, 0, none⟩) (G := { G with own := updN G.own w.heap.size .imm }) (σ := σ) (w := w.drew.alloc (.cells (bytesRow ⟨s.toArray⟩ (grownCap w s.length 0 e)) e ((bytesRow ⟨s.toArray⟩ (grownCap w s.length 0 e)).size, (bytesRow ⟨s.toArray⟩ (grownCap w s.length 0 e)).size + 1))) (xs := bytes s) (c := grownCap w s.length 0 e) (st := 1) hcap
        (by intro x hx; simp only [bytes, List.mem_map] at hx; obtain ⟨b, _, rfl⟩ := hx; rfl)
        (.inr ⟨w.heap.size, 0, rfl, by show updN G.own w.heap.size .imm w.heap.size = .imm; simp, by
          refine MemAt.alloc w.drew (fun i d hd => ?_)
          rw [flat_bytes_of] at hd
          simp only [bytes, List.getElem?_map, Option.map_eq_some_iff] at hd
          obtain ⟨b, hb, rfl⟩ := hd
          obtain ⟨hi, hb⟩ := List.getElem?_eq_some_iff.1 hb
          refine ⟨_, bytesRow_at ⟨s.toArray⟩ _ i (by simpa using hi), ?_⟩
          have : (⟨s.toArray⟩ : ByteArray).data[i]'(by simpa using hi) = b := by simpa using hb
          rw [this]
          exact .int _ _⟩)
      rw [hbl] at this
      exact this
    · simp at h
  · simp at h
end
end Go.Val
