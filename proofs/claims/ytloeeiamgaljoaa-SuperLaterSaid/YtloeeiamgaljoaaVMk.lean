/- A new slice of noughts that is only read. -/
import Derived.Test.YtloeeiamgaljoaaVNew
import Derived.Test.YtloeeiamgaljoaaVApp3
namespace Go.Val
open Go.RowKit
set_option linter.unusedSimpArgs false
set_option linter.unusedVariables false

def makeQ (T : TypeId → TI) (slots : List DV) (op : Op) : Option (Prop × DV) :=
  match op with
  | .makeSlice t x y =>
    match (T t).ty with
    | .slice e =>
      match get slots x with
      | .int _ n =>
        match get slots y with
        | .int _ m => some (((T e).ty ≠ .other ∧ 0 < (T e).size ∧ (T e).zero.cells.size = (T e).size ∧ 0 < (T e).bytes) ∧ 0 ≤ n ∧ n ≤ m ∧ m * (T e).bytes ≤ 281474976710656, .sl (List.replicate n.toNat (ofVal (T e).zero)))
        | _ => none
      | _ => none
    | _ => none
  | _ => none

section
variable {P : Program} {T : TypeId → TI}
theorem make_run (hT : TOK P T) {w : World} {a : Act} {o : Oper} {x y : Operand} {t e : TypeId} (ho : o.op = .makeSlice t x y) (ht : (T t).ty = .slice e) (hne : (T e).ty ≠ .other) (hs0 : 0 < (T e).size) (hb : 0 < (T e).bytes)
    {k k' : IntKind} {n m : Int} (hxe : a.eval x = .int k n) (hye : a.eval y = .int k' m) (h0 : 0 ≤ n) (hnm : n ≤ m) (hsz : m * (T e).bytes ≤ 281474976710656) :
    (execOp a.eval o).run P w = .ok (.value (.slice (some ⟨w.heap.size, 0, none⟩) n.toNat m.toNat)) (w.alloc (.cells ((Array.range (m.toNat * (T e).size)).map fun i => (T e).zero.cells[i % (T e).zero.cells.size]!) e)) := by
  have hm1 : m ≤ m * (T e).bytes := by
    have : m * 1 ≤ m * (T e).bytes := Int.mul_le_mul_of_nonneg_left (by omega) (by omega)
    omega
  have hwn : IntKind.i64.wrap n = n := wrap_nat h0 (by omega)
  have hwm : IntKind.i64.wrap m = m := wrap_nat (by omega) (by omega)
  obtain ⟨i, hi, _, hib, _⟩ := TOK.info hT w hne
  have hlarge : ¬ ((decide (m < 0) || decide ((i.bytes : Int) * m > 2 ^ 48)) || decide (n < 0) || decide (n > m)) = true := by
    rw [hib]
    rw [Int.mul_comm] at hsz
    simp
    omega
  by_cases hm0 : m.toNat = 0
  · simp only [execOp, ho, hxe, hye, Instr.makeSlice, asInt, asIntOf, Sem.run_bind, Sem.run_pure, TOK.und_slice hT w ht, Result.andThen_ok, hi, hwn, hwm, Sem.run_ite, hlarge, if_false, run_askRoom, TOK.size hT w hne, newRow, run_newObj, hm0, Nat.zero_mul, if_true]
    have hz0 : ∀ f : Nat → Value, Array.map f (Array.range 0) = #[] := fun f => by apply Array.eq_empty_of_size_eq_zero; simp
    simp [hz0]
  · have hne0 : ¬ m.toNat * (T e).size = 0 := by
      have : 0 < m.toNat * (T e).size := Nat.mul_pos (by omega) hs0
      omega
    simp only [execOp, ho, hxe, hye, Instr.makeSlice, asInt, asIntOf, Sem.run_bind, Sem.run_pure, TOK.und_slice hT w ht, Result.andThen_ok, hi, hwn, hwm, Sem.run_ite, hlarge, if_false, run_askRoom, TOK.size hT w hne, newRow, run_newObj, hne0, TOK.zero hT w hne, World.alloc_eq]
    simp

theorem Quiet.make (hT : TOK P T) {σ : Store} {slots : List DV} {o : Oper} {C : Prop} {d : DV} (h : makeQ T slots o.op = some (C, d)) (hc : C) : Quiet P σ slots o d := by
  unfold makeQ at h
  split at h
  · rename_i t x y ho
    split at h
    · rename_i e ht
      split at h
      · rename_i k n hx
        split at h
        · rename_i k' m hy
          simp only [Option.some.injEq, Prod.mk.injEq] at h
          obtain ⟨rfl, rfl⟩ := h
          obtain ⟨⟨hne, hs0, hzc, hb⟩, h0, hnm, hsz⟩ := hc
          intro w0 G a w K Qr hr hK
          have hxv := get_rel w hr.2.1 x
          have hyv := get_rel w hr.2.1 y
          rw [hx] at hxv
          rw [hy] at hyv
          generalize hxe : a.eval x = vx at hxv
          generalize hye : a.eval y = vy at hyv
          cases hxv; cases hyv
          have hrun := make_run (P := P) hT (w := w) (a := a) ho ht hne hs0 hb hxe hye h0 hnm hsz
          have hcl : (ofVal (T e).zero).cells.length = (T e).size := by
            have := (ofVal_cells (G := G) (σ := σ) (w := w) (T e).zero).1
            rw [← this, Array.length_toList, hzc]
          simp only [Oper.wp, hrun, Oper.upon]
          obtain ⟨k1, k2⟩ := hr.2.2.newImm (.cells ((Array.range (m.toNat * (T e).size)).map fun i => (T e).zero.cells[i % (T e).zero.cells.size]!) e)
          refine hK _ _ _ k1 k2 ?_
          have hl : (List.replicate n.toNat (ofVal (T e).zero)).length = n.toNat := List.length_replicate
          have := RelV.sl_mk (A := some ⟨w.heap.size, 0, none⟩) (G := { G with own := updN G.own w.heap.size .imm }) (σ := σ) (w := w.alloc (.cells ((Array.range (m.toNat * (T e).size)).map fun i => (T e).zero.cells[i % (T e).zero.cells.size]!) e))
            (xs := List.replicate n.toNat (ofVal (T e).zero)) (c := m.toNat) (st := (T e).size) (by rw [hl]; omega)
            (by intro x hx; rw [List.eq_of_mem_replicate hx]; exact hcl)
            (.inr ⟨w.heap.size, 0, rfl, by simp, MemAt.alloc w (fun i d hd => by
              have hd0 := hd
              obtain ⟨_, hlt⟩ := flat_replicate_get hd
              rw [hcl] at hlt
              have hle : n.toNat * (T e).size ≤ m.toNat * (T e).size := Nat.mul_le_mul_right _ (by omega)
              refine ⟨_, Array.getElem?_eq_getElem (by simpa using Nat.lt_of_lt_of_le hlt hle), ?_⟩
              exact zeros_rel (m := m.toNat) hd0 (by rw [hzc]; exact Array.getElem?_eq_getElem _))⟩)
          rw [hl] at this
          exact this
        · simp at h
      · simp at h
    · simp at h
  · simp at h
end

section
variable {P : Program} {T : TypeId → TI} {σ : Store}
theorem StoreRel.frzS {w0 : World} {G : Gh} {w : World} (hS : StoreRel w0 G σ w) {id : Nat} {R : Row} (hR : σ.rows[id]? = some (some R)) :
    ∃ G', StoreRel w0 G' ⟨σ.rows.set id none, σ.boxes, σ.maps⟩ w ∧ Ext G σ w G' ⟨σ.rows.set id none, σ.boxes, σ.maps⟩ w ∧ (∀ d v, RelV G σ w d v → RelV G' ⟨σ.rows.set id none, σ.boxes, σ.maps⟩ w (frz id R.xs d) v) := by
  obtain ⟨G', h1, h2, h3⟩ := StoreRel.freeze (s := ⟨[], σ⟩) hS hR
  have x : Ext G' (St.freeze ⟨[], σ⟩ id R.xs).σ w G' ⟨σ.rows.set id none, σ.boxes, σ.maps⟩ w :=
    ⟨fun k hk => ⟨hk, rfl⟩, by simp [St.freeze], by simp [St.freeze], Nat.le_refl _, fun i R' hi hR' => ⟨R', hR', rfl, Nat.le_refl _, fun _ => rfl⟩, fun _ _ => rfl, fun _ _ => rfl⟩
  refine ⟨G', ⟨h1.below, h1.lt, h1.trk, fun i R hR => (h1.rows i R hR).keep x rfl (fun _ hk => ⟨hk, rfl⟩), fun i B0 hB0 => ?_, fun i M hM => (h1.maps i M hM).keep x rfl (fun _ hk => ⟨hk, rfl⟩)⟩, h2.trans x, fun d v hd => (h3 d v hd).ext x⟩
  simp only at hB0
  have hfx : (St.freeze ⟨[], σ⟩ id R.xs).σ.boxes[i]? = some (some { B0 with cs := B0.cs.map (frz1 id R.xs) }) := by
    simp only [St.freeze, List.getElem?_map, hB0, Option.map_some]
  obtain ⟨k1, arr, k2, _⟩ := h1.boxes i _ hfx
  obtain ⟨_, arr', k3, k4⟩ := hS.boxes i B0 hB0
  rw [h2.boxB i (List.getElem?_eq_some_iff.1 hB0).1] at k1 k2
  refine ⟨by rw [(h2.trans x).boxB i (List.getElem?_eq_some_iff.1 hB0).1]; exact k1, arr', ?_, k4.ext (h2.trans x)⟩
  rw [(h2.trans x).boxB i (List.getElem?_eq_some_iff.1 hB0).1]
  exact k3
end
def appCall (c : Call) : Option (Operand × Operand × TypeId × TypeId) :=
  match c.callee with
  | .builtin .append =>
    match c.args.toList with
    | [x, y] =>
      match c.argTypes.toList with
      | [t, t2] => some (x, y, t, t2)
      | _ => none
    | _ => none
  | _ => none

section
variable {P : Program} {T : TypeId → TI} {σ : Store}
theorem appCall_some {c : Call} {x y : Operand} {t t2 : TypeId} (h : appCall c = some (x, y, t, t2)) : c.callee = .builtin .append ∧ c.args = #[x, y] ∧ c.argTypes = #[t, t2] := by
  obtain ⟨cal, args, ts⟩ := c
  unfold appCall at h
  simp only at h
  split at h
  · split at h
    · rename_i x' y' ha
      split at h
      · rename_i t' t2' ht
        simp only [Option.some.injEq, Prod.mk.injEq] at h
        obtain ⟨rfl, rfl, rfl, rfl⟩ := h
        refine ⟨rfl, ?_, ?_⟩
        · exact Array.toList_inj.1 ha
        · exact Array.toList_inj.1 ht
      · simp at h
    · simp at h
  · simp at h


/-- What makes a new row, of which nothing is written any more, leaves no trace. -/
theorem Quiet.of_row {slots : List DV} {o : Oper} {xs : List DV} {e : TypeId} {st : Nat} (h : Effect P ⟨slots, σ⟩ o (one (.row σ.rows.length xs.length) { σ with rows := σ.rows ++ [some ⟨xs, e, st⟩] }))
    (hn : ∀ w0 G a w, RelS w0 G ⟨slots, σ⟩ a w → nameds σ.rows.length σ.boxes.length σ.maps.length xs = true) : Quiet P σ slots o (.sl xs) := by
  intro w0 G a w K Qr hr hK
  obtain ⟨nv, w', v, r, σ', G', he, hv, ⟨rfl, rfl⟩, hS', hE', hd⟩ := h w0 G a w hr
  have hR : ({ σ with rows := σ.rows ++ [some ⟨xs, e, st⟩] } : Store).rows[σ.rows.length]? = some (some ⟨xs, e, st⟩) := by simp
  obtain ⟨G2, h1, h2, h3⟩ := StoreRel.frzS hS' hR
  have hd2 := h3 _ _ hd
  have hfz : frz σ.rows.length xs (.row σ.rows.length xs.length) = .sl xs := by simp [frz]
  simp only [hfz] at hd2
  have htr : (⟨(σ.rows ++ [some (⟨xs, e, st⟩ : Row)]).set σ.rows.length none, σ.boxes, σ.maps⟩ : Store).trunc σ.rows.length σ.boxes.length σ.maps.length = σ := by
    simp [Store.trunc]
  have hSt := h1.trunc (r := σ.rows.length) (b := σ.boxes.length) (m := σ.maps.length) (by simp) (Nat.le_refl _) (Nat.le_refl _) (by rw [htr]; exact hr.2.2.names)
  have hEt := (hE'.trans h2).trunc
  have hvt := hd2.trunc (r := σ.rows.length) (b := σ.boxes.length) (m := σ.maps.length) (by simp) (Nat.le_refl _) (Nat.le_refl _) (by simp only [DV.named]; exact hn w0 G a w hr)
  rw [htr] at hSt hEt hvt
  have key := hK v G2 w' hSt hEt hvt
  rcases hv with rfl | ⟨rfl, rfl⟩
  · simp only [Oper.wp, he, Oper.upon]; exact key
  · simp only [Oper.wp, he, Oper.upon]; exact key

/-- A new row out of two, that is only read. -/
def appQ (T : TypeId → TI) (σ : Store) (slots : List DV) (op : Op) : Option (Prop × DV) :=
  match op with
  | .call c =>
    match appCall c with
    | some (x, y, t, t2) =>
      match (T t).ty with
      | .slice e =>
        match get slots x with
        | .slt xs =>
          match srcD T σ t2 (get slots y) with
          | some (C, ys) => some (((T e).ty ≠ .other ∧ 0 < (T e).size ∧ (T e).zero.cells.size = (T e).size ∧ 0 < (T e).bytes) ∧ C ∧ (∀ x ∈ xs, x.cells.length = (T e).size) ∧ (xs = [] ∨ ys ≠ []) ∧ (∀ x ∈ ys, x.cells.length = (T e).size) ∧
              (xs.length + ys.length) * (T e).bytes ≤ 140737488355328, .sl (xs ++ ys))
          | none => none
        | _ => none
      | _ => none
    | none => none
  | _ => none
theorem Quiet.app (hT : TOK P T) {slots : List DV} {o : Oper} {C : Prop} {d : DV} (h : appQ T σ slots o.op = some (C, d)) (hc : C) : Quiet P σ slots o d := by
  unfold appQ at h
  split at h
  · rename_i c ho
    split at h
    · rename_i x y t t2 hcall
      obtain ⟨a1, a2, a3⟩ := appCall_some hcall
      split at h
      · rename_i e he
        split at h
        · rename_i xs hx
          split at h
          · rename_i C1 ys hy
            simp only [Option.some.injEq, Prod.mk.injEq] at h
            obtain ⟨rfl, rfl⟩ := h
            obtain ⟨⟨h1, h2, h3, h4⟩, h5, h6, h7, h8, h9⟩ := hc
            have hE := Effect.appendNew (s := ⟨slots, σ⟩) hT ho a1 a2 a3 hx he h1 h2 h3 h4 hy h5 h6 h8 h7 h9
            rw [← List.length_append] at hE
            refine Quiet.of_row hE (fun w0 G a w hr => ?_)
            rw [nameds_append, Bool.and_eq_true]
            constructor
            · have hv := (get_rel w hr.2.1 x).named
              simp only [hx, DV.named] at hv
              exact hv
            · obtain ⟨new, hn1, _⟩ := AppSrc.ofSrc (s := ⟨slots, σ⟩) (y := y) (ty := o.type) hT he h1 h4 hy h5 h8 w0 G a w hr
              have := hn1.names
              rwa [nameds_flat] at this
          · simp at h
        · simp at h
      · simp at h
    · simp at h
  · simp at h
end
end Go.Val
