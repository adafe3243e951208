/- The rules in the form in which a program's text is gone through. -/
import Derived.Test.YtloeeiamgaljoaaVRet
namespace Go.Val
open Go.RowKit
set_option linter.unusedSimpArgs false
set_option linter.unusedVariables false

/-- A region's operations that are still to come; of the region only the places are kept. -/
def EvD (P : Program) (dsts : List (Option Tmp)) (l : List Oper) (slots : List DV) (σ : Store) (Q : Exit → St → Prop) : Prop :=
  ∀ ops : Array Oper, ops.toList.map (·.dst) = dsts → EvL P ops l ⟨slots, σ⟩ Q

/-- A function that can be called. -/
def FnAt (P : Program) (f : FuncId) : Prop := ∃ fn body, P.funcs[f]? = some fn ∧ fn.body = some body ∧ fn.name ≠ "runtime.NumGoroutine"

/-- Which bool a guard asks for, and which it met. -/
def guardD (dsts : List (Option Tmp)) (slots : List DV) (j : Nat) : Option Bool :=
  match dsts.getD j none with
  | some t => match slots.getD t .undef with
    | .bool b => some b
    | _ => none
  | none => none

section
variable {P : Program} {T : TypeId → TI} {dsts : List (Option Tmp)} {rest : List Oper} {slots slots' : List DV} {σ σ' : Store} {Q : Exit → St → Prop} {t : Tmp} {op : Op} {ty : TypeId} {pos : String} {af : Array Edge}

theorem Ev_regionD {id : Nat} {l : List Oper} (hd : l.map (·.dst) = dsts) (h : EvD P dsts l slots σ Q) : Ev P (.region id l.toArray false) ⟨slots, σ⟩ Q :=
  Ev_region (h _ (by simpa using hd))

theorem EvD_nil (h : Q .normal ⟨slots, σ⟩) : EvD P dsts [] slots σ Q := fun _ _ => EvL_nil h

theorem EvD_step (hT : TOK P T) {C : Prop} {d : DV} (h : stepQ T σ slots op = some (C, d)) (hc : C) (hs : slots.set t d = slots') (k : EvD P dsts rest slots' σ Q) :
    EvD P dsts (⟨some t, op, ty, pos, af, none⟩ :: rest) slots σ Q := by
  intro ops ho
  refine EvL_step hT h rfl hc ?_
  simp only [St.put]
  rw [hs]
  exact k ops ho

/-- The same, where the answer is told in other words. -/
theorem EvD_as (hT : TOK P T) {C : Prop} {d : DV} (d' : DV) (h : stepQ T σ slots op = some (C, d)) (hc : C) (hd : d = d') (hs : slots.set t d' = slots') (k : EvD P dsts rest slots' σ Q) :
    EvD P dsts (⟨some t, op, ty, pos, af, none⟩ :: rest) slots σ Q := EvD_step hT h hc (by rw [hd]; exact hs) k

theorem guard_wanted {ops : Array Oper} (ho : ops.toList.map (·.dst) = dsts) {j : Nat} {b want : Bool} (hg : guardD dsts slots j = some b) {o : Oper} (h : o.guard = some (j, want)) :
    wantedD ops slots o = some (b == want) := by
  unfold guardD at hg
  unfold wantedD
  rw [h]
  have e : (ops[j]?).bind (·.dst) = dsts.getD j none := by
    rw [← ho, List.getD_eq_getElem?_getD, List.getElem?_map, Array.getElem?_toList]
    cases ops[j]? <;> rfl
  simp only [e]
  split at hg
  · rename_i t ht
    rw [ht]
    simp only [Option.map_some]
    split at hg
    · rename_i c hc
      simp only [Option.some.injEq] at hg
      rw [hc, ← hg]; rfl
    · simp at hg
  · simp at hg

theorem EvD_on (hT : TOK P T) {j : Nat} {want : Bool} (hg : guardD dsts slots j = some want) {C : Prop} {d : DV} (h : stepQ T σ slots op = some (C, d)) (hc : C) (hs : slots.set t d = slots') (k : EvD P dsts rest slots' σ Q) :
    EvD P dsts (⟨some t, op, ty, pos, af, some (j, want)⟩ :: rest) slots σ Q := by
  intro ops ho
  refine EvL_step hT h ?_ hc ?_
  · rw [guard_wanted ho hg rfl]; simp
  · simp only [St.put]
    rw [hs]
    exact k ops ho
theorem EvD_off {j : Nat} {b want : Bool} (hg : guardD dsts slots j = some b) (hne : (b == want) = false) (hs : slots.set t .undef = slots') (k : EvD P dsts rest slots' σ Q) :
    EvD P dsts (⟨some t, op, ty, pos, af, some (j, want)⟩ :: rest) slots σ Q := by
  intro ops ho
  refine EvL_off ?_ ?_
  · rw [guard_wanted ho hg rfl, hne]
  · simp only [St.put]
    rw [hs]
    exact k ops ho

/-- A call. -/
theorem EvD_call {c : Call} {f : FuncId} {args args' : List DV} {R : DV → Store → Prop} (h : calleeD P slots c = some (f, args)) (hle : LeL args args') (hF : Does P f args' σ R) (hat : FnAt P f)
    (k : ∀ r σ', R r σ' → EvD P dsts rest (slots.set t r) σ' Q) : EvD P dsts (⟨some t, .call c, ty, pos, af, none⟩ :: rest) slots σ Q := by
  intro ops ho
  obtain ⟨fn, body, h1, h2, h3⟩ := hat
  exact EvL_call rfl rfl h h1 h2 h3 hle hF (fun r σ' hR => k r σ' hR ops ho)
theorem EvD_callOn {c : Call} {j : Nat} {want : Bool} (hg : guardD dsts slots j = some want) {f : FuncId} {args args' : List DV} {R : DV → Store → Prop} (h : calleeD P slots c = some (f, args)) (hle : LeL args args') (hF : Does P f args' σ R) (hat : FnAt P f)
    (k : ∀ r σ', R r σ' → EvD P dsts rest (slots.set t r) σ' Q) : EvD P dsts (⟨some t, .call c, ty, pos, af, some (j, want)⟩ :: rest) slots σ Q := by
  intro ops ho
  obtain ⟨fn, body, h1, h2, h3⟩ := hat
  exact EvL_call rfl (by rw [guard_wanted ho hg rfl]; simp) h h1 h2 h3 hle hF (fun r σ' hR => k r σ' hR ops ho)
/-- A call whose answer is nothing. -/
theorem EvD_call0 {c : Call} {f : FuncId} {args args' : List DV} {R : DV → Store → Prop} (h : calleeD P slots c = some (f, args)) (hle : LeL args args') (hF : Does P f args' σ R) (hat : FnAt P f)
    (k : ∀ r σ', R r σ' → EvD P dsts rest slots σ' Q) : EvD P dsts (⟨none, .call c, ty, pos, af, none⟩ :: rest) slots σ Q := by
  intro ops ho
  obtain ⟨fn, body, h1, h2, h3⟩ := hat
  exact EvL_call rfl rfl h h1 h2 h3 hle hF (fun r σ' hR => k r σ' hR ops ho)
theorem EvD_pure {c : Call} {f : FuncId} {args args' : List DV} {d : DV} (h : calleeD P slots c = some (f, args)) (hle : LeL args args') (hF : Pure P f args' d) (hat : FnAt P f) (hs : slots.set t d = slots') (k : EvD P dsts rest slots' σ Q) :
    EvD P dsts (⟨some t, .call c, ty, pos, af, none⟩ :: rest) slots σ Q :=
  EvD_call h hle (hF σ) hat (fun r σ' ⟨h1, h2⟩ => by subst h1; subst h2; rw [hs]; exact k)
theorem EvD_pureOn {c : Call} {j : Nat} {want : Bool} (hg : guardD dsts slots j = some want) {f : FuncId} {args args' : List DV} {d : DV} (h : calleeD P slots c = some (f, args)) (hle : LeL args args') (hF : Pure P f args' d) (hat : FnAt P f) (hs : slots.set t d = slots') (k : EvD P dsts rest slots' σ Q) :
    EvD P dsts (⟨some t, .call c, ty, pos, af, some (j, want)⟩ :: rest) slots σ Q :=
  EvD_callOn hg h hle (hF σ) hat (fun r σ' ⟨h1, h2⟩ => by subst h1; subst h2; rw [hs]; exact k)
theorem EvD_own {c : Call} {f : FuncId} {args args' : List DV} {xs : List DV} {e : TypeId} {st : Nat} (h : calleeD P slots c = some (f, args)) (hle : LeL args args') (hF : PureOwn P f args' xs e st) (hat : FnAt P f)
    (hs : slots.set t (.row σ.rows.length xs.length) = slots') (k : EvD P dsts rest slots' { σ with rows := σ.rows ++ [some ⟨xs, e, st⟩] } Q) :
    EvD P dsts (⟨some t, .call c, ty, pos, af, none⟩ :: rest) slots σ Q :=
  EvD_call h hle (hF σ) hat (fun r σ' ⟨h1, h2⟩ => by subst h1; subst h2; rw [hs]; exact k)

/-- What writes. -/
theorem EvD_eff {R : DV → Store → Prop} {dst : Option Tmp} (h : Effect P ⟨slots, σ⟩ ⟨dst, op, ty, pos, af, none⟩ R) (k : ∀ r σ', R r σ' → EvD P dsts rest (St.put ⟨slots, σ'⟩ dst r).slots σ' Q) :
    EvD P dsts (⟨dst, op, ty, pos, af, none⟩ :: rest) slots σ Q := by
  intro ops ho
  refine EvL_effect rfl h (fun r σ' hR => ?_)
  have := k r σ' hR ops ho
  cases dst <;> exact this
theorem EvD_eff1 {r : DV} (h : Effect P ⟨slots, σ⟩ ⟨some t, op, ty, pos, af, none⟩ (one r σ')) (hs : slots.set t r = slots') (k : EvD P dsts rest slots' σ' Q) :
    EvD P dsts (⟨some t, op, ty, pos, af, none⟩ :: rest) slots σ Q :=
  EvD_eff h (fun r' σ'' ⟨h1, h2⟩ => by subst h1; subst h2; simp only [St.put]; rw [hs]; exact k)
theorem EvD_eff0 {r : DV} (h : Effect P ⟨slots, σ⟩ ⟨none, op, ty, pos, af, none⟩ (one r σ')) (k : EvD P dsts rest slots σ' Q) :
    EvD P dsts (⟨none, op, ty, pos, af, none⟩ :: rest) slots σ Q :=
  EvD_eff h (fun r' σ'' ⟨h1, h2⟩ => by subst h1; subst h2; exact k)

theorem EvD_freeze (id : Nat) {R : Row} (hR : σ.rows[id]? = some (some R)) (h : EvD P dsts rest (St.freeze ⟨slots, σ⟩ id R.xs).slots (St.freeze ⟨slots, σ⟩ id R.xs).σ Q) : EvD P dsts rest slots σ Q :=
  fun ops ho => EvL_freeze (s := ⟨slots, σ⟩) id hR (h ops ho)
theorem EvD_fix (b : Nat) {B : Box} (hB : σ.boxes[b]? = some (some B)) (h : EvD P dsts rest (St.fix ⟨slots, σ⟩ b B.cs).slots (St.fix ⟨slots, σ⟩ b B.cs).σ Q) : EvD P dsts rest slots σ Q :=
  fun ops ho => EvL_fix (s := ⟨slots, σ⟩) b hB (h ops ho)
theorem EvD_le (hle : LeL slots slots') (h : EvD P dsts rest slots' σ Q) : EvD P dsts rest slots σ Q :=
  fun ops ho w0 G0 σ0 W0 G a w hx hr => h ops ho w0 G0 σ0 W0 G a w hx ⟨hr.1, hle _ _ _ _ hr.2.1, hr.2.2⟩

/-- A body, from its first step on. -/
theorem Pure.body (hT : TOK P T) {f : FuncId} {fn : Func} {c : Code} {args : List DV} {d : DV} {slots : List DV} {n : Nat} (hf : P.funcs[f]? = some fn) (hb : fn.body = some c) (hd : d.named 0 0 0 = true) (hn : fn.ntmps = n)
    (hs : args ++ List.replicate (n - args.length) .undef = slots)
    (h : ∀ σ, Ev P c ⟨slots, σ⟩ (RetQ T fn.results.toList (fun r σ' => r = d ∧ ∃ rs bs ms, σ' = ⟨σ.rows ++ rs, σ.boxes ++ bs, σ.maps ++ ms⟩))) : Pure P f args d :=
  Pure.of hd (fun σ => Does_body hT hf hb (by rw [hn, hs]; exact h σ))
theorem PureOwn.body (hT : TOK P T) {f : FuncId} {fn : Func} {c : Code} {args : List DV} {xs : List DV} {e : TypeId} {st : Nat} {slots : List DV} {n : Nat} (hf : P.funcs[f]? = some fn) (hb : fn.body = some c) (hd : nameds 0 0 0 xs = true) (hn : fn.ntmps = n)
    (hs : args ++ List.replicate (n - args.length) .undef = slots)
    (h : ∀ σ, Ev P c ⟨slots, σ⟩ (RetQ T fn.results.toList (fun r σ' => ∃ id, σ.rows.length ≤ id ∧ r = .row id xs.length ∧ σ'.rows[id]? = some (some ⟨xs, e, st⟩) ∧ ∃ rs bs ms, σ' = ⟨σ.rows ++ rs, σ.boxes ++ bs, σ.maps ++ ms⟩))) : PureOwn P f args xs e st :=
  fun σ => Does.own hd (Does_body hT hf hb (by rw [hn, hs]; exact h σ))
theorem Does.body (hT : TOK P T) {f : FuncId} {fn : Func} {c : Code} {args : List DV} {slots : List DV} {n : Nat} {R : DV → Store → Prop} (hf : P.funcs[f]? = some fn) (hb : fn.body = some c) (hn : fn.ntmps = n)
    (hs : args ++ List.replicate (n - args.length) .undef = slots) (h : Ev P c ⟨slots, σ⟩ (RetQ T fn.results.toList R)) : Does P f args σ R :=
  Does_body hT hf hb (by rw [hn, hs]; exact h)

theorem retQ {rs : List ResultVar} {R : DV → Store → Prop} {s : St} {C : Prop} {d : DV} (h : resD T s rs = some (C, d)) (hc : C) (hR : R d s.σ) : RetQ T rs R .ret s := ⟨C, d, h, hc, hR⟩
theorem retQn {rs : List ResultVar} {R : DV → Store → Prop} {s : St} {C : Prop} {d : DV} (h : resD T s rs = some (C, d)) (hc : C) (hR : R d s.σ) : RetQ T rs R .normal s := ⟨C, d, h, hc, hR⟩
end
end Go.Val
