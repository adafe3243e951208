/- Append. -/
import Derived.Test.YtloeeiamgaljoaaVWr3
namespace Go.Val
open Go.RowKit
set_option linter.unusedSimpArgs false
set_option linter.unusedVariables false

def notInt : Ty → Bool
  | .int _ => false
  | .other => false
  | _ => true

section
variable {P : Program} {T : TypeId → TI} {s : St}

theorem und_notInt (hT : TOK P T) {t : TypeId} (h : notInt (T t).ty = true) (w : World) : ∃ d, (underlying t).run P w = .ok d w ∧ (match d with | .int _ => true | _ => false) = false := by
  have hne : (T t).ty ≠ .other := by intro e; rw [e] at h; simp [notInt] at h
  obtain ⟨d, hd, hr⟩ := TOK.und hT w rfl hne
  refine ⟨d, hd, ?_⟩
  cases hy : (T t).ty <;> rw [hy] at h hr <;> simp [notInt] at h <;> simp only [TyRel] at hr
  case struct => obtain ⟨gs, rfl, _⟩ := hr; rfl
  case func => obtain ⟨p, r, v, rfl⟩ := hr; rfl
  all_goals subst hr; rfl

theorem run_append_in (hT : TOK P T) {t t2 ty e : TypeId} (ht : (T t).ty = .slice e) (h2 : notInt (T t2).ty = true) (hne : (T e).ty ≠ .other) {w w' : World} {A : Option Addr} {n c m : Nat} {x : Value} {new : Array Value}
    (hl : (Builtin.lenOf x).run P w = .ok m w) (hf : (Builtin.firstCells (T e).size m x).run P w = .ok new w) (hroom : n + m ≤ c)
    (hst : match A with | some a => (storeCells (a.add (n * (T e).size)) new.toList).run P w = .ok () w' | none => w' = w) :
    (Builtin.append_ #[t, t2] ty #[.slice A n c, x]).run P w = .ok (.slice A (n + m) c) w' := by
  obtain ⟨d, hd, hb⟩ := und_notInt hT h2 w
  unfold Builtin.append_
  simp only [List.getElem?_toArray, List.getElem?_cons_zero, List.getElem?_cons_succ, Sem.run_bind, TOK.und_slice hT w ht, Result.andThen_ok, TOK.size hT w hne, hd, Sem.run_pure]
  cases d <;> simp only [reduceCtorEq] at hb <;> simp only [Bool.false_eq_true, if_false, Bool.not_false, if_true, hl, Result.andThen_ok, Sem.run_bind, hf, Sem.run_ite, hroom]
  all_goals
    cases A with
    | none => simp only at hst; subst hst; simp
    | some a => simp only at hst; simp [hst]

theorem run_append_grow (hT : TOK P T) {t t2 ty e : TypeId} (ht : (T t).ty = .slice e) (h2 : notInt (T t2).ty = true) (hne : (T e).ty ≠ .other) {w : World} {A : Option Addr} {n c m : Nat} {x : Value} {old new : Array Value}
    (hl : (Builtin.lenOf x).run P w = .ok m w) (hfo : (Builtin.firstCells (T e).size n (.slice A n c)).run P w.drew = .ok old w.drew) (hf : (Builtin.firstCells (T e).size m x).run P w.drew = .ok new w.drew) (hroom : c < n + m)
    (hsz : (n + m) * (T e).bytes ≤ 140737488355328) (hb : 0 < (T e).bytes) : ∃ nc rest, n + m ≤ nc ∧ rest.size = (nc - (n + m)) * (T e).zero.cells.size ∧
    (Builtin.append_ #[t, t2] ty #[.slice A n c, x]).run P w = .ok (.slice (some ⟨w.heap.size, 0, none⟩) (n + m) nc) (w.drew.alloc (.cells (old ++ new ++ rest) e)) := by
  obtain ⟨d, hd, hbq⟩ := und_notInt hT h2 w
  have hfit := growslice_fits hroom hsz
  obtain ⟨i, hi, hib⟩ := TOK.info hT w hne
  have hmax : ¬ ((n + m : Nat) : Int) > IntKind.i64.max := by
    have h1 : n + m ≤ (n + m) * (T e).bytes := Nat.le_mul_of_pos_right _ hb
    simp only [IntKind.max, IntKind.signed, IntKind.bits]
    simp only [if_true]
    omega
  have hmb : ¬ (Builtin.nextslicecap (n + m) c * i.bytes > 2 ^ 48) := by rw [hib.2.1]; omega
  refine ⟨(Question.appendCap (n + m) c e).cut (w.tape w.drawn (.appendCap (n + m) c e)), Builtin.zeroCells (T e).zero.cells ((Question.appendCap (n + m) c e).cut (w.tape w.drawn (.appendCap (n + m) c e)) - (n + m)), by simp [Question.cut], size_zeroCells _ _, ?_⟩
  have hnr : ¬ (n + m ≤ c) := by omega
  have hz : (zeroValue e).run P w.drew = .ok (T e).zero w.drew := TOK.zero hT w.drew hne
  have hi' : (typeInfo e).run P w.drew = .ok i w.drew := by
    obtain ⟨i', h1, _⟩ := TOK.info hT w.drew hne
    simp only [typeInfo, Sem.run_bind, run_program, Result.andThen_ok] at hi h1 ⊢
    cases hq : P.info? e with
    | none => rw [hq] at hi; simp at hi
    | some j => rw [hq] at hi; simp at hi; simp [hi]
  unfold Builtin.append_
  simp only [List.getElem?_toArray, List.getElem?_cons_zero, List.getElem?_cons_succ, Sem.run_bind, TOK.und_slice hT w ht, Result.andThen_ok, TOK.size hT w hne, hd, Sem.run_pure]
  cases d <;> simp only [reduceCtorEq] at hbq <;> simp only [Bool.false_eq_true, if_false, Bool.not_false, if_true, hl, Result.andThen_ok, Sem.run_bind, Sem.run_ite, hnr, hi, hmax, false_and, hmb, run_choose, Question.forced, run_askRoom, Sem.run_pure,
    World.drew_eq, hfo, hf, hz, hi', newRow, run_newObj, World.alloc_eq, World.size_drew]

/-- What is laid behind a row, however it is told. -/
structure AppSrc (P : Program) (T : TypeId → TI) (t t2 ty e : TypeId) (x : Value) (m : Nat) (new : Array Value) (w : World) : Prop where
  inn : ∀ (A : Option Addr) (n c : Nat) (w' : World), n + m ≤ c → (match A with | some a => (storeCells (a.add (n * (T e).size)) new.toList).run P w = .ok () w' | none => w' = w) →
    (Builtin.append_ #[t, t2] ty #[.slice A n c, x]).run P w = .ok (.slice A (n + m) c) w'
  grow : ∀ (A : Option Addr) (n c : Nat) (old : Array Value), (Builtin.firstCells (T e).size n (.slice A n c)).run P w.drew = .ok old w.drew → c < n + m → (n + m) * (T e).bytes ≤ 140737488355328 →
    ∃ nc rest, n + m ≤ nc ∧ rest.size = (nc - (n + m)) * (T e).zero.cells.size ∧ (Builtin.append_ #[t, t2] ty #[.slice A n c, x]).run P w = .ok (.slice (some ⟨w.heap.size, 0, none⟩) (n + m) nc) (w.drew.alloc (.cells (old ++ new ++ rest) e))
theorem AppSrc.of (hT : TOK P T) {t t2 ty e : TypeId} (ht : (T t).ty = .slice e) (h2 : notInt (T t2).ty = true) (hne : (T e).ty ≠ .other) (hb : 0 < (T e).bytes) {w : World} {m : Nat} {x : Value} {new : Array Value}
    (h : ∀ w', w'.heap = w.heap → (Builtin.lenOf x).run P w' = .ok m w' ∧ (Builtin.firstCells (T e).size m x).run P w' = .ok new w') : AppSrc P T t t2 ty e x m new w :=
  ⟨fun A n c w' hroom hst => run_append_in hT ht h2 hne (h w rfl).1 (h w rfl).2 hroom hst,
   fun A n c old hfo hroom hsz => run_append_grow hT ht h2 hne (h w rfl).1 hfo (h w.drew rfl).2 hroom hsz hb⟩
end
end Go.Val
