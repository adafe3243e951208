/- A run of operations in one go: as far as they can be followed. -/
import Derived.Test.YtloeeiamgaljoaaVEq
import Derived.Test.YtloeeiamgaljoaaVMk
namespace Go.Val
open Go.RowKit
set_option linter.unusedSimpArgs false
set_option linter.unusedVariables false

/-- A text of a row's octets. -/
def convR (T : TypeId → TI) (σ : Store) (slots : List DV) (op : Op) : Option (Prop × DV) :=
  match op with
  | .convert src dst x =>
    match (T dst).ty with
    | .str =>
      match get slots x with
      | .row id len =>
        match σ.rows[id]? with
        | some (some R) => some ((∃ e, (T src).ty = .slice e ∧ (T e).ty = .int .u8) ∧ R.xs.length = len ∧ R.xs.all DV.isByte = true, .str (unbytes R.xs))
        | _ => none
      | _ => none
    | _ => none
  | _ => none
def stepA (T : TypeId → TI) (σ : Store) (slots : List DV) (op : Op) : Option (Prop × DV) :=
  match convR T σ slots op with
  | some r => some r
  | none =>
  match makeQ T slots op with
  | some r => some r
  | none =>
  match appQ T σ slots op with
  | some r => some r
  | none =>
  match newD T σ slots op with
  | some r => some r
  | none =>
    match cmpD T slots op with
    | some r => some r
    | none => stepQ T σ slots op
theorem Quiet.convR {P : Program} {T : TypeId → TI} (hT : TOK P T) {σ : Store} {slots : List DV} {o : Oper} {C : Prop} {d : DV} (h : convR T σ slots o.op = some (C, d)) (hc : C) : Quiet P σ slots o d := by
  unfold Go.Val.convR at h
  split at h
  · rename_i src dst x ho
    split at h
    · rename_i hd
      split at h
      · rename_i id len hx
        split at h
        · rename_i R hR
          simp only [Option.some.injEq, Prod.mk.injEq] at h
          obtain ⟨rfl, rfl⟩ := h
          obtain ⟨⟨e, hs, he⟩, hl, hb⟩ := hc
          intro w0 G a w K Qr hr hK
          have hv := get_rel w hr.2.1 x
          rw [hx] at hv
          generalize hev : a.eval x = ve at hv
          cases hv with
          | row _ _ _ hid hle hv =>
            have hv := hv R hR hl
            obtain ⟨A, c, hA, hm⟩ := row_mem w hr.2.2 hR
            rw [hA] at hv
            have h1 := bytes_string (G := G) (σ := σ) w hT hs he hd hb (A := A) (c := c) (hm.imp (fun h => h) (fun ⟨g, a1, a2⟩ => ⟨g, 0, a1, a2⟩))
            simp only [Oper.wp, execOp, ho, hev, hv, Sem.run_bind, h1, Result.andThen_ok, Sem.run_pure, Oper.upon]
            exact hK _ G w hr.2.2 (Ext.refl _ _ _) (.str _)
        · simp at h
      · simp at h
    · simp at h
  · simp at h
theorem Quiet.stepA {P : Program} {T : TypeId → TI} (hT : TOK P T) {σ : Store} {slots : List DV} {o : Oper} {C : Prop} {d : DV} (h : stepA T σ slots o.op = some (C, d)) (hc : C) : Quiet P σ slots o d := by
  unfold Go.Val.stepA at h
  split at h
  · rename_i r hr
    simp only [Option.some.injEq] at h
    subst h
    exact Quiet.convR hT hr hc
  · split at h
    · rename_i r hr
      simp only [Option.some.injEq] at h
      subst h
      exact Quiet.make hT hr hc
    · split at h
      · rename_i r hr
        simp only [Option.some.injEq] at h
        subst h
        exact Quiet.app hT hr hc
      · split at h
        · rename_i r hr
          simp only [Option.some.injEq] at h
          subst h
          exact Quiet.new hT hr hc
        · split at h
          · rename_i r hr
            simp only [Option.some.injEq] at h
            subst h
            exact Quiet.cmp hT hr hc
          · exact Quiet.step hT h hc

/-- Whether an operation is to be done. -/
def onD (dsts : List (Option Tmp)) (slots : List DV) (g : Option (Nat × Bool)) : Option Bool :=
  match g with
  | none => some true
  | some (j, want) =>
    match dsts.getD j none with
    | some t => litG want (slots.getD t .undef)
    | none => none

/-- A write to a variable. -/
def storeD (T : TypeId → TI) (σ : Store) (t : TypeId) (p x : DV) : Option (Prop × Store) :=
  match p with
  | .ptr b off =>
    match σ.boxes[b]? with
    | some (some B) => some (((T t).ty ≠ .other ∧ FlatD σ x ∧ x.cells.length = (T t).size ∧ off + (T t).size ≤ B.cs.length), { σ with boxes := σ.boxes.set b (some ⟨B.ty, over B.cs off x.cells⟩) })
    | _ => none
  | .rp id len i off =>
    match σ.rows[id]? with
    | some (some R) => some ((R.xs.length = len ∧ i < len ∧ (T t).ty ≠ .other ∧ FlatD σ x ∧ x.cells.length = (T t).size ∧ 0 < (T t).size ∧ off + (T t).size ≤ R.st), { σ with rows := σ.rows.set id (some { R with xs := R.xs.set i ((R.xs.getD i .undef).over off x.cells) }) })
    | _ => none
  | _ => none

def allocOf : Op → Option TypeId
  | .alloc e => some e
  | _ => none
def storeOf : Op → Option (TypeId × Operand × Operand)
  | .store t p x => some (t, p, x)
  | _ => none

/-- As far as operations can be followed: what must hold, the slots, the store, and what is left. -/
def runL (T : TypeId → TI) (dsts : List (Option Tmp)) : List Oper → List DV → Store → Prop → Prop × List DV × Store × List Oper
  | [], s, σ, C => (C, s, σ, [])
  | o :: l, s, σ, C =>
    match onD dsts s o.guard with
    | none => (C, s, σ, o :: l)
    | some false =>
      match o.dst with
      | some t => runL T dsts l (s.set t .undef) σ C
      | none => runL T dsts l s σ C
    | some true =>
      match o.dst with
      | none =>
        match storeOf o.op with
        | none => (C, s, σ, o :: l)
        | some (t, p, x) =>
          match storeD T σ t (get s p) (get s x) with
          | some (C', σ') => runL T dsts l s σ' (C ∧ C')
          | none => (C, s, σ, o :: l)
      | some t =>
        match allocOf o.op with
        | some e => runL T dsts l (s.set t (.ptr σ.boxes.length 0)) { σ with boxes := σ.boxes ++ [some ⟨e, (ofVal (T e).zero).cells⟩] } (C ∧ (T e).ty ≠ .other)
        | none =>
          match stepA T σ s o.op with
          | some (C', d) => runL T dsts l (s.set t d) σ (C ∧ C')
          | none => (C, s, σ, o :: l)

section
variable {P : Program} {T : TypeId → TI} {dsts : List (Option Tmp)} {l rest : List Oper} {slots slots' : List DV} {σ σ' : Store} {Q : Exit → St → Prop}

theorem onD_wanted {ops : Array Oper} (ho : ops.toList.map (·.dst) = dsts) {o : Oper} {b : Bool} (h : onD dsts slots o.guard = some b) : wantedD ops slots o = some b := by
  cases hg : o.guard with
  | none => rw [hg] at h; simp only [onD, Option.some.injEq] at h; simp only [wantedD, hg, h]
  | some g =>
    obtain ⟨j, want⟩ := g
    rw [hg] at h
    simp only [onD] at h
    unfold wantedD
    have e : (ops[j]?).bind (·.dst) = dsts.getD j none := by
      rw [← ho, List.getD_eq_getElem?_getD, List.getElem?_map, Array.getElem?_toList]
      cases ops[j]? <;> rfl
    simp only [hg, e]
    split at h
    · rename_i t ht
      rw [ht]
      exact h
    · simp at h

theorem runL_ok (hT : TOK P T) {C0 C : Prop} (h : runL T dsts l slots σ C0 = (C, slots', σ', rest)) (hc : C) : C0 ∧ (EvD P dsts rest slots' σ' Q → EvD P dsts l slots σ Q) := by
  induction l generalizing slots σ C0 with
  | nil => simp only [runL, Prod.mk.injEq] at h; obtain ⟨rfl, rfl, rfl, rfl⟩ := h; exact ⟨hc, id⟩
  | cons o l ih =>
    have stop : ∀ (h : (C0, slots, σ, o :: l) = (C, slots', σ', rest)), C0 ∧ (EvD P dsts rest slots' σ' Q → EvD P dsts (o :: l) slots σ Q) := by
      intro h
      simp only [Prod.mk.injEq] at h; obtain ⟨rfl, rfl, rfl, rfl⟩ := h; exact ⟨hc, id⟩
    unfold runL at h
    cases hon : onD dsts slots o.guard with
    | none => rw [hon] at h; exact stop h
    | some b =>
      rw [hon] at h
      obtain ⟨dst, op, ty, pos, af, g⟩ := o
      cases b with
      | false =>
        cases dst with
        | none =>
          obtain ⟨h1, h2⟩ := ih h
          refine ⟨h1, fun k ops ho => ?_⟩
          exact EvL_off (onD_wanted ho hon) (h2 k ops ho)
        | some t =>
          obtain ⟨h1, h2⟩ := ih h
          refine ⟨h1, fun k ops ho => ?_⟩
          exact EvL_off (onD_wanted ho hon) (h2 k ops ho)
      | true =>
        simp only at h
        cases dst with
        | none =>
          simp only at h
          cases hso : storeOf op with
          | none => rw [hso] at h; exact stop h
          | some q =>
            obtain ⟨t, p, x⟩ := q
            have hop : op = .store t p x := by
              cases op <;> simp only [storeOf, reduceCtorEq] at hso
              simp only [Option.some.injEq, Prod.mk.injEq] at hso
              obtain ⟨rfl, rfl, rfl⟩ := hso
              rfl
            subst hop
            rw [hso] at h
            simp only at h
            split at h
            · rename_i C' σ1 hst
              obtain ⟨⟨h0, h1⟩, h2⟩ := ih h
              refine ⟨h0, fun k ops ho => ?_⟩
              unfold storeD at hst
              split at hst
              · rename_i b off hp
                split at hst
                · rename_i B hB
                  simp only [Option.some.injEq, Prod.mk.injEq] at hst
                  obtain ⟨rfl, rfl⟩ := hst
                  obtain ⟨c1, c2, c3, c4⟩ := h1
                  refine EvL_effect (onD_wanted ho hon) (Effect.store hT rfl hp hB c1 c2 c3 c4) ?_
                  rintro r σ'' ⟨rfl, rfl⟩
                  exact h2 k ops ho
                · simp at hst
              · rename_i id len i off hp
                split at hst
                · rename_i R hR
                  simp only [Option.some.injEq, Prod.mk.injEq] at hst
                  obtain ⟨rfl, rfl⟩ := hst
                  obtain ⟨c1, c2, c3, c4, c5, c6, c7⟩ := h1
                  refine EvL_effect (onD_wanted ho hon) (Effect.storeRow hT rfl hp hR c1 c2 c3 c4 c5 c6 c7) ?_
                  rintro r σ'' ⟨rfl, rfl⟩
                  exact h2 k ops ho
                · simp at hst
              · simp at hst
            · exact stop h
        | some t =>
          simp only at h
          cases hao : allocOf op with
          | some e =>
            have hop : op = .alloc e := by
              cases op <;> simp only [allocOf, reduceCtorEq] at hao
              simp only [Option.some.injEq] at hao
              subst hao
              rfl
            subst hop
            rw [hao] at h
            simp only at h
            obtain ⟨⟨h0, h1⟩, h2⟩ := ih h
            refine ⟨h0, fun k ops ho => ?_⟩
            refine EvL_effect (onD_wanted ho hon) (Effect.alloc hT rfl h1) ?_
            rintro r σ'' ⟨rfl, rfl⟩
            exact h2 k ops ho
          | none =>
            rw [hao] at h
            simp only at h
            split at h
            · rename_i C' d hs
              obtain ⟨⟨h0, h1⟩, h2⟩ := ih h
              refine ⟨h0, fun k ops ho => ?_⟩
              exact EvL_quiet (onD_wanted ho hon) (Quiet.stepA hT hs h1) (h2 k ops ho)
            · exact stop h

theorem EvD_run (hT : TOK P T) {C : Prop} (h : runL T dsts l slots σ True = (C, slots', σ', rest)) (hc : C) (k : EvD P dsts rest slots' σ' Q) : EvD P dsts l slots σ Q :=
  (runL_ok hT h hc).2 k
end
end Go.Val
