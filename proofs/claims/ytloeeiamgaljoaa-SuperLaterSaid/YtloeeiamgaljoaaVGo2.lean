/- The rules in a short form: what can be reckoned is reckoned by itself. -/
import Derived.Test.YtloeeiamgaljoaaVGo
namespace Go.Val
open Go.RowKit
set_option linter.unusedSimpArgs false
set_option linter.unusedVariables false

class FnC (P : Program) (f : FuncId) : Prop where
  at_ : FnAt P f
/-- What a function answers: values alone. -/
class Con (P : Program) (f : FuncId) (args : List DV) (C : outParam Prop) (d : outParam DV) : Prop where
  ok : C → Pure P f args d
/-- A function that hands back a new row. -/
class ConOwn (P : Program) (f : FuncId) (args : List DV) (C : outParam Prop) (xs : outParam (List DV)) (e : outParam TypeId) (st : outParam Nat) : Prop where
  ok : C → PureOwn P f args xs e st
/-- A function that lays something behind the row that it is handed first. -/
def PureApp (P : Program) (f : FuncId) (args : List DV) (ys : List DV) (e : TypeId) (st : Nat) (room : Nat) : Prop :=
  ∀ σ id xs, σ.rows[id]? = some (some ⟨xs, e, st⟩) → xs.length ≤ room → Does P f (.row id xs.length :: args) σ (one (.row id (xs.length + ys.length)) { σ with rows := σ.rows.set id (some ⟨xs ++ ys, e, st⟩) })
class ConApp (P : Program) (f : FuncId) (args : List DV) (C : outParam Prop) (ys : outParam (List DV)) (e : outParam TypeId) (st room : outParam Nat) : Prop where
  ok : C → PureApp P f args ys e st room

/-- A call that is to be done. -/
def EvC (P : Program) (f : FuncId) (args : List DV) (t : Option Tmp) (dsts : List (Option Tmp)) (rest : List Oper) (slots : List DV) (σ : Store) (Q : Exit → St → Prop) : Prop :=
  ∀ ops : Array Oper, ops.toList.map (·.dst) = dsts → ∀ w0 G0 σ0 W0 G a w (vs : Array Value), Ext G0 σ0 W0 G σ w → RelS w0 G ⟨slots, σ⟩ a w → RelL G σ w args vs.toList →
    Calls P f vs w fun e w' => ∃ v, e = .returned v ∧ wpList P ops (Post w0 G0 σ0 W0 Q) rest (a.put t v) w'
theorem EvC_does {P : Program} {f : FuncId} {args : List DV} {t : Option Tmp} {dsts : List (Option Tmp)} {rest : List Oper} {slots : List DV} {σ : Store} {Q : Exit → St → Prop} {R : DV → Store → Prop}
    (hF : Does P f args σ R) (k : ∀ r σ', R r σ' → EvD P dsts rest (putS slots t r) σ' Q) : EvC P f args t dsts rest slots σ Q := by
  intro ops ho w0 G0 σ0 W0 G a w vs hx hr hrel
  refine (hF w0 G vs w hr.2.2 hrel).mono ?_
  rintro e w' ⟨v, r, σ', G', rfl, hR, hS, hE, hv⟩
  refine ⟨v, rfl, ?_⟩
  have k1 := k r σ' hR ops ho
  refine k1 w0 G0 σ0 W0 G' _ w' (hx.trans hE) ⟨by rw [put_defers]; exact hr.1, ?_, hS⟩
  have := RelL_put (hr.2.1.ext hE) hv t
  rw [← putS_eq slots σ' t r]
  exact this

theorem LeL.cons2 {d d' : DV} {ds ds' : List DV} (hs : LeL ds ds') (h : Le d d') : LeL (d :: ds) (d' :: ds') := LeL.cons h hs

section
variable {P : Program} {T : TypeId → TI} {dsts : List (Option Tmp)} {l rest : List Oper} {slots slots' : List DV} {σ σ' : Store} {Q : Exit → St → Prop} {dst : Option Tmp} {op : Op} {ty : TypeId} {pos : String} {af : Array Edge} {g : Option (Nat × Bool)}

def weakD : DV → DV
  | .slt xs => .sl xs
  | d => d
def weakL (l : List DV) : List DV := l.map weakD
theorem weakD_slt (xs : List DV) : weakD (.slt xs) = .sl xs := rfl
theorem weakD_sl (xs : List DV) : weakD (.sl xs) = .sl xs := rfl
theorem weakD_int (k : IntKind) (n : Int) : weakD (.int k n) = .int k n := rfl
theorem weakD_bool (n : Bool) : weakD (.bool n) = .bool n := rfl
theorem weakD_str (n : List UInt8) : weakD (.str n) = .str n := rfl
theorem weakD_agg (n : List DV) : weakD (.agg n) = .agg n := rfl
theorem weakD_row (n m : Nat) : weakD (.row n m) = .row n m := rfl
theorem weakD_ptr (n m : Nat) : weakD (.ptr n m) = .ptr n m := rfl
theorem weakD_cp (n : List DV) : weakD (.cp n) = .cp n := rfl
theorem weakD_rp (a b c d : Nat) : weakD (.rp a b c d) = .rp a b c d := rfl
theorem weakD_nilp : weakD .nilp = .nilp := rfl
theorem weakD_fn (f : Fn) (a b : List DV) : weakD (.fn f a b) = .fn f a b := rfl
theorem weakD_mp (n : Nat) : weakD (.mp n) = .mp n := rfl
theorem weakD_it (n : Nat) : weakD (.it n) = .it n := rfl
theorem weakD_cm (a b : List DV) : weakD (.cm a b) = .cm a b := rfl
theorem weakD_undef : weakD .undef = .undef := rfl
theorem LeL_weak (l : List DV) : LeL l (weakL l) := by
  induction l with
  | nil => exact LeL.nil
  | cons d l ih =>
    refine LeL.cons ?_ ih
    cases d
    case slt xs => exact Le.sl xs
    all_goals exact Le.refl _

/-! ### regions -/
theorem W_reg {id : Nat} (h : EvD P dsts l slots σ Q) (hd : l.map (·.dst) = dsts := by simp only [List.map_cons, List.map_nil]; exact rfl) : Ev P (.region id l.toArray false) ⟨slots, σ⟩ Q := Ev_regionD hd h
theorem W_run (hT : TOK P T) {o : Oper} {C : Prop} (k : EvD P dsts rest slots' σ' Q) (hc : C)
    (h : runX T dsts o.guard (o :: l) slots σ True = .at_ C slots' σ' rest := by simp (maxSteps := 1000000) (disch := omega) only [go_sem]; with_reducible exact rfl)
    (hp : rest.length < (o :: l).length := by decide) : EvD P dsts (o :: l) slots σ Q := (runX_ok hT h hc).2 k
theorem W_nil (h : Q .normal ⟨slots, σ⟩) : EvD P dsts [] slots σ Q := EvD_nil h

/-! ### calls -/
theorem W_callee {c : Call} {f : FuncId} {args : List DV} (k : EvC P f args dst dsts rest slots σ Q) [hf : FnC P f]
    (hon : onD dsts slots g = some true := by simp only [go_sem] <;> fail)
    (h : calleeD P slots c = some (f, args) := by simp (disch := omega) only [go_sem]; with_reducible exact rfl) :
    EvD P dsts (⟨dst, .call c, ty, pos, af, g⟩ :: rest) slots σ Q := by
  intro ops ho w0 G0 σ0 W0 G a w hx hr
  obtain ⟨fn, body, h1, h2, h3⟩ := hf.at_
  rw [wpList, if_pos (wanted_rel hr.2.1 (onD_wanted ho hon))]
  obtain ⟨vs, he, hrel⟩ := call_run hr.2.1 (o := ⟨dst, .call c, ty, pos, af, g⟩) rfl h h1 h2 h3
  refine .inl ?_
  simp only [Oper.wp, he, Oper.upon]
  refine (k ops ho w0 G0 σ0 W0 G a w vs hx hr hrel).mono ?_
  rintro e w' ⟨v, rfl, h⟩
  exact h
theorem W_does {f : FuncId} {args : List DV} {d : DV} (hF : Does P f args σ (one d σ')) (k : EvD P dsts rest slots' σ' Q)
    (hs : putS slots dst d = slots' := by simp only [putS, List.set_cons_succ, List.set_cons_zero]; exact rfl) : EvC P f args dst dsts rest slots σ Q :=
  EvC_does hF (fun r σ' ⟨h1, h2⟩ => by subst h1; subst h2; rw [hs]; exact k)
theorem W_pure {f : FuncId} {args : List DV} {d : DV} (hF : Pure P f args d) (k : EvD P dsts rest slots' σ Q)
    (hs : putS slots dst d = slots' := by simp only [putS, List.set_cons_succ, List.set_cons_zero]; exact rfl) : EvC P f args dst dsts rest slots σ Q := W_does (hF σ) k hs
theorem W_con {f : FuncId} {args : List DV} {C : Prop} {d : DV} [hi : Con P f args C d] (k : EvD P dsts rest slots' σ Q) (hc : C)
    (hs : putS slots dst d = slots' := by simp only [putS, List.set_cons_succ, List.set_cons_zero]; exact rfl) : EvC P f args dst dsts rest slots σ Q := W_pure (hi.ok hc) k hs
theorem W_own {f : FuncId} {args : List DV} {xs : List DV} {e : TypeId} {st : Nat} (hF : PureOwn P f args xs e st) (k : EvD P dsts rest slots' ⟨σ.rows ++ [some ⟨xs, e, st⟩], σ.boxes, σ.maps⟩ Q)
    (hs : putS slots dst (.row σ.rows.length xs.length) = slots' := by simp only [go_sem]; exact rfl) : EvC P f args dst dsts rest slots σ Q := W_does (hF σ) k hs
theorem W_conOwn {f : FuncId} {args : List DV} {C : Prop} {xs : List DV} {e : TypeId} {st : Nat} [hi : ConOwn P f args C xs e st] (k : EvD P dsts rest slots' σ' Q) (hc : C)
    (hs : putS slots dst (.row σ.rows.length xs.length) = slots' := by simp only [go_sem]; exact rfl)
    (hσ : (⟨σ.rows ++ [some ⟨xs, e, st⟩], σ.boxes, σ.maps⟩ : Store) = σ' := by (try simp only [List.append_assoc, List.cons_append, List.nil_append]) <;> exact rfl) : EvC P f args dst dsts rest slots σ Q := W_own (hi.ok hc) (hσ ▸ k) hs
theorem W_conApp {f : FuncId} {args : List DV} {id len e' st' : Nat} {xs : List DV} {C : Prop} {ys : List DV} {e : TypeId} {st room : Nat} [hi : ConApp P f args C ys e st room] (k : EvD P dsts rest slots' σ' Q) (hc : C) (hl : xs.length ≤ room)
    (hR : σ.rows[id]? = some (some ⟨xs, e', st'⟩) := by (try simp only [app_get, app_get0, List.getElem?_cons_succ, List.getElem?_cons_zero]) <;> exact rfl) (hx : len = xs.length := by first | rfl | (simp only [go_sem]; done) | (simp only [go_sem]; omega)) (he : e' = e := by rfl) (hst : st' = st := by rfl)
    (hs : putS slots dst (.row id (len + ys.length)) = slots' := by simp only [go_sem]; exact rfl)
    (hσ : (⟨σ.rows.set id (some ⟨xs ++ ys, e, st⟩), σ.boxes, σ.maps⟩ : Store) = σ' := by (try simp only [app_set, app_set0, List.set_cons_succ, List.set_cons_zero, List.nil_append, List.cons_append, List.append_assoc]) <;> exact rfl) : EvC P f (.row id len :: args) dst dsts rest slots σ Q := by
  subst hx; subst hσ; subst hs; subst he; subst hst
  exact EvC_does (hi.ok hc σ id xs hR hl) (fun r σ' ⟨h1, h2⟩ => by subst h1; subst h2; exact k)

/-- What says less is handed on. -/
def Other (a b : List DV) : Prop := a = a ∨ b = b
theorem Other_same (a : List DV) : Other a a := .inl rfl
theorem Other_any (a b : List DV) : Other a b := .inl rfl
theorem W_weak {f : FuncId} {args args' : List DV} (k : EvC P f args' dst dsts rest slots σ Q)
    (hle : weakL args = args' := by simp only [weakL, List.map_cons, List.map_nil, weakD_slt, weakD_sl, weakD_int, weakD_bool, weakD_str, weakD_agg, weakD_row, weakD_ptr, weakD_cp, weakD_rp, weakD_nilp, weakD_fn, weakD_mp, weakD_it, weakD_cm, weakD_undef]; exact rfl)
    (hne : Other args args' := by (fail_if_success with_reducible exact Other_same _); exact Other_any _ _) : EvC P f args dst dsts rest slots σ Q := by
  subst hle
  intro ops ho w0 G0 σ0 W0 G a w vs hx hr hrel
  exact k ops ho w0 G0 σ0 W0 G a w vs hx hr (LeL_weak _ _ _ _ _ hrel)

/-! ### guards and tests that part the way -/
theorem bset {t : Nat} {b : Bool} (h : slots.getD t .undef = .bool b) : slots.set t (.bool b) = slots := by
  rw [List.getD_eq_getElem?_getD] at h
  cases hq : slots[t]? with
  | none => rw [hq] at h; simp at h
  | some d =>
    rw [hq] at h
    simp only [Option.getD_some] at h
    subst h
    obtain ⟨hl, he⟩ := List.getElem?_eq_some_iff.1 hq
    rw [← he]
    exact List.set_getElem_self hl
theorem W_split {b : Bool} {s1 s2 : List DV} {t : Nat} (hv : slots.getD t .undef = .bool b) (h1 : slots.set t (.bool true) = s1) (h2 : slots.set t (.bool false) = s2) (k1 : b = true → EvD P dsts l s1 σ Q) (k2 : b = false → EvD P dsts l s2 σ Q) : EvD P dsts l slots σ Q := by
  cases b
  · rw [← bset hv, h2]; exact k2 rfl
  · rw [← bset hv, h1]; exact k1 rfl
theorem notD (p : Prop) [Decidable p] : (!decide p) = decide (¬p) := by by_cases h : p <;> simp [h]
theorem W_grdP {b : Bool} {p : Prop} [Decidable p] {s1 s2 : List DV} {j t : Nat} {want : Bool} (k1 : p → EvD P dsts (⟨dst, op, ty, pos, af, some (j, want)⟩ :: rest) s1 σ Q) (k2 : ¬p → EvD P dsts (⟨dst, op, ty, pos, af, some (j, want)⟩ :: rest) s2 σ Q)
    (hj : dsts.getD j none = some t := by simp only [List.getD_cons_succ, List.getD_cons_zero]; exact rfl)
    (hv : slots.getD t .undef = .bool b := by simp only [List.getD_cons_succ, List.getD_cons_zero]; exact rfl) (hb : b = decide p := by first | with_reducible exact rfl | with_reducible exact notD _)
    (h1 : slots.set t (.bool true) = s1 := by simp only [List.set_cons_succ, List.set_cons_zero]; exact rfl)
    (h2 : slots.set t (.bool false) = s2 := by simp only [List.set_cons_succ, List.set_cons_zero]; exact rfl) : EvD P dsts (⟨dst, op, ty, pos, af, some (j, want)⟩ :: rest) slots σ Q :=
  W_split (hb ▸ hv) h1 h2 (fun h => k1 (of_decide_eq_true h)) (fun h => k2 (of_decide_eq_false h))
def Marked (b : Bool) : Prop := b = b
theorem Marked_t : Marked true := rfl
theorem Marked_f : Marked false := rfl
theorem Marked_any (b : Bool) : Marked b := rfl
theorem W_grdB {b : Bool} {s1 s2 : List DV} {j t : Nat} {want : Bool} (k1 : b = true → EvD P dsts (⟨dst, op, ty, pos, af, some (j, want)⟩ :: rest) s1 σ Q) (k2 : b = false → EvD P dsts (⟨dst, op, ty, pos, af, some (j, want)⟩ :: rest) s2 σ Q)
    (hj : dsts.getD j none = some t := by simp only [List.getD_cons_succ, List.getD_cons_zero]; exact rfl)
    (hv : slots.getD t .undef = .bool b := by simp only [List.getD_cons_succ, List.getD_cons_zero]; exact rfl)
    (hm : Marked b := by (fail_if_success with_reducible exact Marked_t); (fail_if_success with_reducible exact Marked_f); exact Marked_any _)
    (h1 : slots.set t (.bool true) = s1 := by simp only [List.set_cons_succ, List.set_cons_zero]; exact rfl)
    (h2 : slots.set t (.bool false) = s2 := by simp only [List.set_cons_succ, List.set_cons_zero]; exact rfl) : EvD P dsts (⟨dst, op, ty, pos, af, some (j, want)⟩ :: rest) slots σ Q :=
  W_split hv h1 h2 k1 k2
theorem W_grdY {b : Bool} {p : Prop} [Decidable p] {s1 : List DV} {j t : Nat} {want : Bool} (k1 : EvD P dsts (⟨dst, op, ty, pos, af, some (j, want)⟩ :: rest) s1 σ Q)
    (hj : dsts.getD j none = some t := by simp only [List.getD_cons_succ, List.getD_cons_zero]; exact rfl)
    (hv : slots.getD t .undef = .bool b := by simp only [List.getD_cons_succ, List.getD_cons_zero]; exact rfl) (hb : b = decide p := by first | with_reducible exact rfl | with_reducible exact notD _) (hp : p := by first | assumption | omega | exact fun hq => hq (by assumption))
    (h1 : slots.set t (.bool true) = s1 := by simp only [List.set_cons_succ, List.set_cons_zero]; exact rfl) : EvD P dsts (⟨dst, op, ty, pos, af, some (j, want)⟩ :: rest) slots σ Q :=
  W_split (hb ▸ hv) h1 rfl (fun _ => k1) (fun h => absurd hp (of_decide_eq_false h))
theorem W_grdN {b : Bool} {p : Prop} [Decidable p] {s1 : List DV} {j t : Nat} {want : Bool} (k1 : EvD P dsts (⟨dst, op, ty, pos, af, some (j, want)⟩ :: rest) s1 σ Q)
    (hj : dsts.getD j none = some t := by simp only [List.getD_cons_succ, List.getD_cons_zero]; exact rfl)
    (hv : slots.getD t .undef = .bool b := by simp only [List.getD_cons_succ, List.getD_cons_zero]; exact rfl) (hb : b = decide p := by first | with_reducible exact rfl | with_reducible exact notD _) (hp : ¬p := by first | assumption | omega | exact fun hq => hq (by assumption))
    (h1 : slots.set t (.bool false) = s1 := by simp only [List.set_cons_succ, List.set_cons_zero]; exact rfl) : EvD P dsts (⟨dst, op, ty, pos, af, some (j, want)⟩ :: rest) slots σ Q :=
  W_split (hb ▸ hv) rfl h1 (fun h => absurd (of_decide_eq_true h) hp) (fun _ => k1)
theorem W_pickP {p : Prop} [Decidable p] {s1 s2 : List DV} {t : Nat} {x y : Operand} (k1 : p → EvD P dsts (⟨dst, .pick (.tmp t) x y, ty, pos, af, g⟩ :: rest) s1 σ Q) (k2 : ¬p → EvD P dsts (⟨dst, .pick (.tmp t) x y, ty, pos, af, g⟩ :: rest) s2 σ Q)
    (hv : slots.getD t .undef = .bool (decide p) := by simp only [List.getD_cons_succ, List.getD_cons_zero]; exact rfl)
    (h1 : slots.set t (.bool true) = s1 := by simp only [List.set_cons_succ, List.set_cons_zero]; exact rfl)
    (h2 : slots.set t (.bool false) = s2 := by simp only [List.set_cons_succ, List.set_cons_zero]; exact rfl) : EvD P dsts (⟨dst, .pick (.tmp t) x y, ty, pos, af, g⟩ :: rest) slots σ Q :=
  W_split hv h1 h2 (fun h => k1 (of_decide_eq_true h)) (fun h => k2 (of_decide_eq_false h))
theorem W_pickB {b : Bool} {s1 s2 : List DV} {t : Nat} {x y : Operand} (k1 : b = true → EvD P dsts (⟨dst, .pick (.tmp t) x y, ty, pos, af, g⟩ :: rest) s1 σ Q) (k2 : b = false → EvD P dsts (⟨dst, .pick (.tmp t) x y, ty, pos, af, g⟩ :: rest) s2 σ Q)
    (hv : slots.getD t .undef = .bool b := by simp only [List.getD_cons_succ, List.getD_cons_zero]; exact rfl)
    (h1 : slots.set t (.bool true) = s1 := by simp only [List.set_cons_succ, List.set_cons_zero]; exact rfl)
    (h2 : slots.set t (.bool false) = s2 := by simp only [List.set_cons_succ, List.set_cons_zero]; exact rfl) : EvD P dsts (⟨dst, .pick (.tmp t) x y, ty, pos, af, g⟩ :: rest) slots σ Q :=
  W_split hv h1 h2 k1 k2
theorem W_ifT {c : Operand} {x y : Code} (k : Ev P x ⟨slots, σ⟩ Q) (hc : get slots c = .bool true := by simp only [Val.get, List.getD_cons_succ, List.getD_cons_zero, Bool.not_true, Bool.not_false] <;> fail) : Ev P (.cond c x y) ⟨slots, σ⟩ Q := Ev_cond hc (fun _ => k) (fun h => by cases h)
theorem W_ifF {c : Operand} {x y : Code} (k : Ev P y ⟨slots, σ⟩ Q) (hc : get slots c = .bool false := by simp only [Val.get, List.getD_cons_succ, List.getD_cons_zero, Bool.not_true, Bool.not_false] <;> fail) : Ev P (.cond c x y) ⟨slots, σ⟩ Q := Ev_cond hc (fun h => by cases h) (fun _ => k)
theorem W_ifY {b : Bool} {p : Prop} [Decidable p] {c : Operand} {x y : Code} (k : Ev P x ⟨slots, σ⟩ Q) (hc : get slots c = .bool b := by simp only [Val.get, List.getD_cons_succ, List.getD_cons_zero]; exact rfl) (hb : b = decide p := by first | with_reducible exact rfl | with_reducible exact notD _) (hp : p := by first | assumption | omega | exact fun hq => hq (by assumption)) : Ev P (.cond c x y) ⟨slots, σ⟩ Q := Ev_cond (hb ▸ hc) (fun _ => k) (fun h => absurd hp (of_decide_eq_false h))
theorem W_ifN {b : Bool} {p : Prop} [Decidable p] {c : Operand} {x y : Code} (k : Ev P y ⟨slots, σ⟩ Q) (hc : get slots c = .bool b := by simp only [Val.get, List.getD_cons_succ, List.getD_cons_zero]; exact rfl) (hb : b = decide p := by first | with_reducible exact rfl | with_reducible exact notD _) (hp : ¬p := by first | assumption | omega | exact fun hq => hq (by assumption)) : Ev P (.cond c x y) ⟨slots, σ⟩ Q := Ev_cond (hb ▸ hc) (fun h => absurd (of_decide_eq_true h) hp) (fun _ => k)
theorem W_ifP {b : Bool} {p : Prop} [Decidable p] {c : Operand} {x y : Code} (k1 : p → Ev P x ⟨slots, σ⟩ Q) (k2 : ¬p → Ev P y ⟨slots, σ⟩ Q) (hc : get slots c = .bool b := by simp only [Val.get, List.getD_cons_succ, List.getD_cons_zero]; exact rfl) (hb : b = decide p := by first | with_reducible exact rfl | with_reducible exact notD _) : Ev P (.cond c x y) ⟨slots, σ⟩ Q := Ev_cond (hb ▸ hc) (fun h => k1 (of_decide_eq_true h)) (fun h => k2 (of_decide_eq_false h))
theorem W_ifB {b : Bool} {c : Operand} {x y : Code} (k1 : b = true → Ev P x ⟨slots, σ⟩ Q) (k2 : b = false → Ev P y ⟨slots, σ⟩ Q) (hc : get slots c = .bool b := by simp only [Val.get, List.getD_cons_succ, List.getD_cons_zero]; exact rfl) : Ev P (.cond c x y) ⟨slots, σ⟩ Q := Ev_cond hc k1 k2
/-- Whether a slice is nil is not told where it is empty. -/
theorem W_isnil (hT : TOK P T) {t : Nat} {tt t2 e : TypeId} {x : Operand} {xs : List DV} {s : Bool → List DV} (k : ∀ b, (b = true → xs = []) → EvD P dsts rest (s b) σ Q)
    (hx : get slots x = .sl xs ∨ get slots x = .slt xs := by first | exact .inl rfl | exact .inr rfl) (hs : ∀ b, slots.set t (.bool b) = s b := by intro b; simp only [List.set_cons_succ, List.set_cons_zero]; exact rfl) (ht : (T tt).ty = .slice e := by rfl) :
    EvD P dsts (⟨some t, .binOp .eql tt x (.const (.slice none 0 0)) t2, ty, pos, af, none⟩ :: rest) slots σ Q := by
  refine EvD_eff (Effect.isnil hT rfl hx rfl ht) ?_
  rintro r σ' ⟨⟨b, rfl, hb⟩, rfl⟩
  simp only [St.put]
  rw [hs b]
  refine k b (fun h => ?_)
  subst h
  cases xs with
  | nil => rfl
  | cons x xs => have := hb (by simp); cases this

/-! ### ends of parts -/
theorem Q_thenN {y : Code} {s : St} (h : Ev P y s Q) : thenQ P y Q .normal s := h
theorem Q_thenE {y : Code} {s : St} {i : Nat} (h : Q (.exit i) s) : thenQ P y Q (.exit i) s := h
theorem Q_thenR {y : Code} {s : St} (h : Q .ret s) : thenQ P y Q .ret s := h
theorem Q_blkN {i : Nat} {s : St} (h : Q .normal s) : blockQ i Q .normal s := h
theorem Q_blkE {i : Nat} {s : St} (h : Q .normal s) : blockQ i Q (.exit i) s := by simp only [blockQ, if_true]; exact h
theorem Q_blkX {i j : Nat} {s : St} (h : Q (.exit j) s) (hne : j ≠ i := by decide) : blockQ i Q (.exit j) s := by simp only [blockQ, if_neg hne]; exact h
theorem Q_blkR {i : Nat} {s : St} (h : Q .ret s) : blockQ i Q .ret s := h

/-! ### what falls away -/
def Grew (σ σ' : Store) : Prop := (∃ r, σ'.rows = σ.rows ++ r) ∧ (∃ r, σ'.boxes = σ.boxes ++ r) ∧ ∃ r, σ'.maps = σ.maps ++ r
theorem Grew.out {σ σ' : Store} (h : Grew σ σ') : ∃ rs bs ms, σ' = ⟨σ.rows ++ rs, σ.boxes ++ bs, σ.maps ++ ms⟩ := by
  obtain ⟨⟨a, ha⟩, ⟨b, hb⟩, ⟨c, hc⟩⟩ := h
  exact ⟨a, b, c, by cases σ'; simp_all⟩

theorem Ext.trunc2 {w w' : World} {G G' : Gh} {r b m : Nat} (hx : Ext G σ w G' σ' w') (h1 : σ.rows.length ≤ r) (h2 : σ.boxes.length ≤ b) (h3 : σ.maps.length ≤ m) : Ext G σ w G' (σ'.trunc r b m) w' := by
  have e1 := hx.rowsLen
  have e2 := hx.boxesLen
  have e3 := hx.mapsLen
  refine ⟨hx.imm, by simp only [Store.trunc, List.length_take]; omega, by simp only [Store.trunc, List.length_take]; omega, by simp only [Store.trunc, List.length_take]; omega, fun id R' hid hR' => ?_, hx.boxB, hx.mapB⟩
  simp only [Store.trunc, List.getElem?_take] at hR'
  rw [if_pos (by omega)] at hR'
  exact hx.rowV id R' hid hR'
/-- What has come to be of use no more is left away. -/
def Leaves (σ : Store) (s : St) (t : List DV) (τ : Store) : Prop :=
  LeL s.slots t ∧ Grew τ s.σ ∧ (σ.rows.length ≤ τ.rows.length ∧ σ.boxes.length ≤ τ.boxes.length ∧ σ.maps.length ≤ τ.maps.length) ∧
    nameds τ.rows.length τ.boxes.length τ.maps.length t = true ∧ Named2 σ τ τ.rows.length τ.boxes.length τ.maps.length
theorem Ev_clean {c : Code} {s : St} {Q' : Exit → St → Prop} (h : Ev P c s Q') (hq : ∀ x s', Q' x s' → Q x s' ∨ ∃ t τ, Leaves s.σ s' t τ ∧ Q x ⟨t, τ⟩) : Ev P c s Q := by
  intro w0 G0 σ0 W0 G a w hx hr
  refine wp_mono (h w0 G s.σ w G a w (Ext.refl _ _ _) hr) ?_
  rintro x a' w' ⟨s', G', hq', hr', hx'⟩
  rcases hq x s' hq' with h1 | ⟨t, τ, ⟨hle, hg, hlen, hn, hN⟩, h1⟩
  · exact ⟨s', G', h1, hr', hx.trans hx'⟩
  · obtain ⟨rs, bs, ms, hσ⟩ := hg.out
    have htr : s'.σ.trunc τ.rows.length τ.boxes.length τ.maps.length = τ := by rw [hσ]; simp [Store.trunc]
    have e1 : τ.rows.length ≤ s'.σ.rows.length := by rw [hσ]; simp
    have e2 : τ.boxes.length ≤ s'.σ.boxes.length := by rw [hσ]; simp
    have e3 : τ.maps.length ≤ s'.σ.maps.length := by rw [hσ]; simp
    have hx2 := hx'.trunc2 hlen.1 hlen.2.1 hlen.2.2
    rw [htr] at hx2
    have hns := hr.2.2.names
    have hSt := hr'.2.2.trunc e1 e2 e3 (by
      rw [htr]
      refine ⟨fun id R h => ?_, fun id B h => ?_, fun id M h => ?_⟩
      · rcases hN.rows id R h with h | h
        · exact nameds_mono hlen.1 hlen.2.1 hlen.2.2 _ (hns.rows id R h)
        · exact h
      · rcases hN.boxes id B h with h | h
        · exact nameds_mono hlen.1 hlen.2.1 hlen.2.2 _ (hns.boxes id B h)
        · exact h
      · rcases hN.maps id M h with h | h
        · exact fun p hp => ⟨named_mono hlen.1 hlen.2.1 hlen.2.2 _ (hns.maps id M h p hp).1, named_mono hlen.1 hlen.2.1 hlen.2.2 _ (hns.maps id M h p hp).2⟩
        · exact h)
    rw [htr] at hSt
    have hL := (hle _ _ _ _ hr'.2.1).trunc e1 e2 e3 hn
    rw [htr] at hL
    exact ⟨⟨t, τ⟩, G', h1, ⟨hr'.1, hL, hSt⟩, hx.trans hx2⟩

/-! ### loops -/
def upd (t : List DV) (l : List (Nat × DV)) : List DV := l.foldl (fun s p => s.set p.1 p.2) t
def killS (l : List Nat) (s : List DV) : List DV := l.foldl (fun s t => s.set t .undef) s
theorem upd_nil (t : List DV) : upd t [] = t := rfl
theorem upd_cons (t : List DV) (i : Nat) (d : DV) (l : List (Nat × DV)) : upd t ((i, d) :: l) = upd (t.set i d) l := rfl
theorem killS_nil (t : List DV) : killS [] t = t := rfl
theorem killS_cons (t : List DV) (i : Nat) (l : List Nat) : killS (i :: l) t = killS l (t.set i .undef) := rfl
/-- What a round must come to. -/
def RoundG (s : Nat → List DV) (st : Nat → Store) (n i : Nat) (Q : Exit → St → Prop) : Exit → St → Prop
  | .normal, x => i < n ∧ ((LeL x.slots (s (i + 1)) ∧ x.σ = st (i + 1)) ∨ Leaves (st i) x (s (i + 1)) (st (i + 1)))
  | e, x => Q e x
theorem Q_rndE {s : Nat → List DV} {st : Nat → Store} {n i j : Nat} {x : St} (h : Q (.exit j) x) : RoundG s st n i Q (.exit j) x := h
theorem Q_rndR {s : Nat → List DV} {st : Nat → Store} {n i : Nat} {x : St} (h : Q .ret x) : RoundG s st n i Q .ret x := h
theorem Q_rndN {s : Nat → List DV} {st : Nat → Store} {n i : Nat} (hle : LeL slots (s (i + 1))) (hi : i < n) (hσ : σ = st (i + 1)) : RoundG s st n i Q .normal ⟨slots, σ⟩ := ⟨hi, .inl ⟨hle, hσ⟩⟩
theorem Q_rndG {s : Nat → List DV} {st : Nat → Store} {n i : Nat} (hi : i < n) (h : Leaves (st i) ⟨slots, σ⟩ (s (i + 1)) (st (i + 1))) : RoundG s st n i Q .normal ⟨slots, σ⟩ := ⟨hi, .inr h⟩
theorem Ev_lp {c : Code} (n : Nat) (u : Nat → List (Nat × DV)) (st : Nat → Store) (kill : List Nat) {t0 : List DV} {s : Nat → List DV}
    (hle : LeL slots (s 0)) (h0 : σ = st 0) (h : ∀ i, i ≤ n → Ev P c ⟨s i, st i⟩ (RoundG s st n i Q))
    (hk : killS kill slots = t0 := by simp only [killS_cons, killS_nil, List.set_cons_succ, List.set_cons_zero]; exact rfl)
    (hu : ∀ i, upd t0 (u i) = s i := by intro i; simp only [upd_cons, upd_nil, List.set_cons_succ, List.set_cons_zero]; exact rfl) : Ev P (.loop c) ⟨slots, σ⟩ Q := by
  refine Ev_iter (fun i t τ => t = s i ∧ τ = st i) n hle ⟨rfl, h0⟩ ?_
  rintro i _ _ hi ⟨rfl, rfl⟩
  refine Ev_clean (h i hi) ?_
  rintro x s' hq
  cases x with
  | normal =>
    obtain ⟨h1, ⟨h2, h3⟩ | h2⟩ := hq
    · exact .inl ⟨h1, _, h2, rfl, h3⟩
    · exact .inr ⟨_, _, h2, h1, _, LeL.refl _, rfl, rfl⟩
  | _ => exact .inl hq
end
end Go.Val
