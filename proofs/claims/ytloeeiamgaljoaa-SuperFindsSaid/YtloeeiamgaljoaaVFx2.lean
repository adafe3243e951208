/- Contracts for what hands back what is new, and for what writes a variable of its caller's; the rules. -/
import Derived.Test.YtloeeiamgaljoaaVFx
namespace Go.Val
open Go.RowKit
set_option linter.unusedSimpArgs false
set_option linter.unusedVariables false

/-- A function that hands back rows, variables, maps of its own. -/
class ConT (P : Program) (f : FuncId) (args : List DV) (C : outParam Prop) (d : outParam DV) (rs : outParam (List Row)) (bs : outParam (List Box)) (ms : outParam (List (List (DV × DV)))) : Prop where
  ok : C → ∀ σ : Store, Does P f args σ (one (d.ren (σ.rows.length + ·) (σ.boxes.length + ·) (σ.maps.length + ·)) (σ.plus rs bs ms))
/-- A function that writes the variable whose place it is handed first. -/
class ConP (P : Program) (f : FuncId) (args : List DV) (ty : TypeId) (cs : List DV) (C : outParam Prop) (d : outParam DV) (cs' : outParam (List DV)) (rs : outParam (List Row)) (bs : outParam (List Box)) (ms : outParam (List (List (DV × DV)))) : Prop where
  ok : C → ∀ (σ : Store) (b : Nat), σ.boxes[b]? = some (some ⟨ty, cs⟩) → Does P f (.ptr b 0 :: args) σ (one (d.ren (σ.rows.length + ·) (σ.boxes.length + ·) (σ.maps.length + ·)) ((⟨σ.rows, σ.boxes.set b (some ⟨ty, cs'⟩), σ.maps⟩ : Store).plus rs bs ms))

section
variable {P : Program} {T : TypeId → TI} {dsts : List (Option Tmp)} {l rest : List Oper} {slots slots' : List DV} {σ σ' : Store} {Q : Exit → St → Prop} {dst : Option Tmp}

theorem W_conT {f : FuncId} {args : List DV} {C : Prop} {d : DV} {rs : List Row} {bs : List Box} {ms : List (List (DV × DV))} [hi : ConT P f args C d rs bs ms] (k : EvD P dsts rest slots' σ' Q) (hc : C)
    (hs : putS slots dst (d.ren (σ.rows.length + ·) (σ.boxes.length + ·) (σ.maps.length + ·)) = slots' := by simp only [go_sem, DV.ren, rens, Nat.add_zero]; exact rfl)
    (hσ : σ.plus rs bs ms = σ' := by simp only [Store.plus, List.map_cons, List.map_nil, List.append_nil, List.append_assoc, List.cons_append, List.nil_append]; exact rfl) : EvC P f args dst dsts rest slots σ Q :=
  W_does (hi.ok hc σ) (hσ ▸ k) hs
/-- The variable that is handed on is known. -/
def EvB (P : Program) (f : FuncId) (args : List DV) (b : Nat) (ty : TypeId) (cs : List DV) (t : Option Tmp) (dsts : List (Option Tmp)) (rest : List Oper) (slots : List DV) (σ : Store) (Q : Exit → St → Prop) : Prop :=
  σ.boxes[b]? = some (some ⟨ty, cs⟩) → EvC P f (.ptr b 0 :: args) t dsts rest slots σ Q
theorem W_box {f : FuncId} {args : List DV} {b : Nat} {ty : TypeId} {cs : List DV} (k : EvB P f args b ty cs dst dsts rest slots σ Q)
    (hB : σ.boxes[b]? = some (some ⟨ty, cs⟩) := by first | assumption | ((try simp only [app_get, app_get0, List.getElem?_cons_succ, List.getElem?_cons_zero]) <;> exact rfl)) : EvC P f (.ptr b 0 :: args) dst dsts rest slots σ Q := k hB
theorem W_conP {f : FuncId} {args : List DV} {b : Nat} {ty : TypeId} {cs : List DV} {C : Prop} {d : DV} {cs' : List DV} {rs : List Row} {bs : List Box} {ms : List (List (DV × DV))}
    [hi : ConP P f args ty cs C d cs' rs bs ms] (k : EvD P dsts rest slots' σ' Q) (hc : C)
    (hs : putS slots dst (d.ren (σ.rows.length + ·) (σ.boxes.length + ·) (σ.maps.length + ·)) = slots' := by simp only [go_sem, DV.ren, rens, Nat.add_zero]; exact rfl)
    (hσ : (⟨σ.rows, σ.boxes.set b (some ⟨ty, cs'⟩), σ.maps⟩ : Store).plus rs bs ms = σ' := by simp only [Store.plus, app_set, app_set0, List.set_cons_succ, List.set_cons_zero, List.map_cons, List.map_nil, List.append_nil, List.append_assoc, List.cons_append, List.nil_append]; exact rfl) :
    EvB P f args b ty cs dst dsts rest slots σ Q := by
  intro hB
  exact W_does (hi.ok hc σ b hB) (hσ ▸ k) hs

/-! ### bodies -/
theorem FxT.go (hT : TOK P T) {f : FuncId} {fn : Func} {c : Code} {args : List DV} {d : DV} {rs : List Row} {bs : List Box} {ms : List (List (DV × DV))} {rv : List ResultVar} {n : Nat} (slots : List DV) (hf : P.funcs[f]? = some fn)
    (h : ∀ σ : Store, Ev P c ⟨slots, σ⟩ (RetQ T rv (RX σ σ d rs bs ms))) (hb : fn.body = some c := by rfl) (hn : fn.ntmps = n := by rfl) (hr : fn.results.toList = rv := by exact rfl)
    (hs : args ++ List.replicate (n - args.length) .undef = slots := by rfl)
    (hd : d.top rs.length bs.length ms.length = true := by first | rfl | (simp [DV.top, tops, nameds, DV.named, bytes_named, go_sem]; done))
    (hrs : ∀ R ∈ rs, nameds 0 0 0 R.xs = true := by first | (simp [nameds, DV.named, bytes_named, go_sem]; done) | skip)
    (hbs : ∀ B ∈ bs, nameds 0 0 0 B.cs = true := by first | (simp [nameds, DV.named, bytes_named, go_sem]; done) | skip)
    (hms : ∀ M ∈ ms, ∀ p ∈ M, p.1.named 0 0 0 = true ∧ p.2.named 0 0 0 = true := by first | (simp [nameds, DV.named, bytes_named, go_sem]; done) | skip) :
    ∀ σ : Store, Does P f args σ (one (d.ren (σ.rows.length + ·) (σ.boxes.length + ·) (σ.maps.length + ·)) (σ.plus rs bs ms)) :=
  fun σ => Does.fx hd hrs hbs hms (Wrote.refl σ) (Does_body hT hf hb (by rw [hn, hs, hr]; exact h σ))
theorem FxP.go (hT : TOK P T) {f : FuncId} {fn : Func} {c : Code} {args : List DV} {ty : TypeId} {cs cs' : List DV} {d : DV} {rs : List Row} {bs : List Box} {ms : List (List (DV × DV))} {rv : List ResultVar} {n : Nat} (slots : Nat → List DV) (hf : P.funcs[f]? = some fn)
    (h : ∀ (σ : Store) (b : Nat), b < σ.boxes.length → σ.boxes[b]? = some (some ⟨ty, cs⟩) → Ev P c ⟨slots b, σ⟩ (RetQ T rv (RX σ ⟨σ.rows, σ.boxes.set b (some ⟨ty, cs'⟩), σ.maps⟩ d rs bs ms))) (hb : fn.body = some c := by rfl) (hn : fn.ntmps = n := by rfl) (hr : fn.results.toList = rv := by exact rfl)
    (hs : ∀ b, (.ptr b 0 :: args) ++ List.replicate (n - (args.length + 1)) .undef = slots b := by intro b; rfl)
    (hcs : ∀ c ∈ cs', c.named 0 0 0 = true ∨ c ∈ cs := by (repeat (refine List.forall_mem_cons.2 ⟨by first | (left; rfl) | (right; simp; done) | (left; simp [DV.named, nameds, bytes_named]; done), ?_⟩)); exact fun _ h => nomatch h)
    (hd : d.top rs.length bs.length ms.length = true := by first | rfl | (simp [DV.top, tops, nameds, DV.named, bytes_named, go_sem]; done))
    (hrs : ∀ R ∈ rs, nameds 0 0 0 R.xs = true := by first | (simp [nameds, DV.named, bytes_named, go_sem]; done) | skip)
    (hbs : ∀ B ∈ bs, nameds 0 0 0 B.cs = true := by first | (simp [nameds, DV.named, bytes_named, go_sem]; done) | skip)
    (hms : ∀ M ∈ ms, ∀ p ∈ M, p.1.named 0 0 0 = true ∧ p.2.named 0 0 0 = true := by first | (simp [nameds, DV.named, bytes_named, go_sem]; done) | skip) :
    ∀ (σ : Store) (b : Nat), σ.boxes[b]? = some (some ⟨ty, cs⟩) → Does P f (.ptr b 0 :: args) σ (one (d.ren (σ.rows.length + ·) (σ.boxes.length + ·) (σ.maps.length + ·)) ((⟨σ.rows, σ.boxes.set b (some ⟨ty, cs'⟩), σ.maps⟩ : Store).plus rs bs ms)) := by
  intro σ b hB
  have hlt := (List.getElem?_eq_some_iff.1 hB).1
  refine Does.fx hd hrs hbs hms ⟨rfl, by simp, rfl, fun _ _ h => .inl h, fun i B hi c hc => ?_, fun _ _ h => .inl h⟩ (Does_body hT (args := .ptr b 0 :: args) hf hb (by rw [hn, hr]; have := hs b; simp only [List.length_cons]; rw [this]; exact h σ b hlt hB))
  by_cases hib : b = i
  · subst hib
    simp only at hi
    rw [List.getElem?_set_self hlt] at hi
    simp only [Option.some.injEq] at hi
    subst hi
    rcases hcs c hc with h1 | h1
    · exact .inl h1
    · exact .inr ⟨b, _, hB, h1⟩
  · simp only at hi
    rw [List.getElem?_set_ne hib] at hi
    exact .inr ⟨i, B, hi, hc⟩

/-! ### returning -/
theorem kept0 (n : Nat) : Kept n 0 [] := ⟨rfl, List.nodup_nil, by simp⟩
theorem kept1 {n i : Nat} (h : n ≤ i) : Kept n 1 [i] := ⟨rfl, by simp, by simpa using h⟩
variable {rv : List ResultVar} {C : Prop} {d r : DV} {σ0 τ : Store}
/-- Nothing new. -/
theorem R_x0 (hx : r = d) (hc : C) (h : resD T ⟨slots, σ⟩ rv = some (C, r) := by simp (disch := omega) only [go_sem, resD, resDs, resD1]; exact rfl)
    (hd : ∀ p q s, d.ren p q s = d := by intro p q s; simp only [DV.ren, rens])
    (hg : Grew τ σ := by exact ⟨by first | exact ⟨[], (List.append_nil _).symm⟩ | exact ⟨_, rfl⟩, by first | exact ⟨[], (List.append_nil _).symm⟩ | exact ⟨_, rfl⟩, by first | exact ⟨[], (List.append_nil _).symm⟩ | exact ⟨_, rfl⟩⟩) :
    RetQ T rv (RX σ0 τ d [] [] []) .ret ⟨slots, σ⟩ :=
  ⟨C, r, h, hc, [], [], [], kept0 _, kept0 _, kept0 _, by rw [hd]; exact hx, by simp, by simp, by simp, hg⟩
/-- Nothing new, but the variable that was handed in is written. -/
theorem R_p0 {b : Nat} {ty : TypeId} {cs cs' : List DV} (hx : r = d) (hcs : cs = cs') (hc : C) (h : resD T ⟨slots, σ⟩ rv = some (C, r) := by simp (disch := omega) only [go_sem, resD, resDs, resD1]; exact rfl)
    (hd : ∀ p q s, d.ren p q s = d := by intro p q s; simp only [DV.ren, rens])
    (hg : Grew ⟨σ0.rows, σ0.boxes.set b (some ⟨ty, cs⟩), σ0.maps⟩ σ := by exact ⟨by first | exact ⟨[], (List.append_nil _).symm⟩ | exact ⟨_, rfl⟩, by first | exact ⟨[], (List.append_nil _).symm⟩ | exact ⟨_, rfl⟩, by first | exact ⟨[], (List.append_nil _).symm⟩ | exact ⟨_, rfl⟩⟩) :
    RetQ T rv (RX σ0 ⟨σ0.rows, σ0.boxes.set b (some ⟨ty, cs'⟩), σ0.maps⟩ d [] [] []) .ret ⟨slots, σ⟩ := by
  subst hcs; exact R_x0 hx hc h hd hg
/-- The same where it has not been written. -/
theorem R_p0s {b : Nat} {ty : TypeId} {cs cs' : List DV} (hB : σ0.boxes[b]? = some (some ⟨ty, cs⟩)) (hx : r = d) (hcs : cs = cs') (hc : C) (h : resD T ⟨slots, σ⟩ rv = some (C, r) := by simp (disch := omega) only [go_sem, resD, resDs, resD1]; exact rfl)
    (hd : ∀ p q s, d.ren p q s = d := by intro p q s; simp only [DV.ren, rens])
    (hg : Grew σ0 σ := by exact ⟨by first | exact ⟨[], (List.append_nil _).symm⟩ | exact ⟨_, rfl⟩, by first | exact ⟨[], (List.append_nil _).symm⟩ | exact ⟨_, rfl⟩, by first | exact ⟨[], (List.append_nil _).symm⟩ | exact ⟨_, rfl⟩⟩) :
    RetQ T rv (RX σ0 ⟨σ0.rows, σ0.boxes.set b (some ⟨ty, cs'⟩), σ0.maps⟩ d [] [] []) .ret ⟨slots, σ⟩ := by
  subst hcs; exact R_x0 hx hc h hd (by rw [set_same hB]; exact hg)
/-- One new row. -/
theorem R_xr {xs ys : List DV} {e : TypeId} {st k : Nat} (hx : ys = xs) (hd : ∀ p q s, p 0 = k → d.ren p q s = r) (hc : C) (h : resD T ⟨slots, σ⟩ rv = some (C, r) := by simp (disch := omega) only [go_sem, resD, resDs, resD1]; exact rfl)
    (hR : σ.rows[k]? = some (some ⟨ys, e, st⟩) := by (try simp only [app_get, app_get0, List.getElem?_cons_succ, List.getElem?_cons_zero]) <;> exact rfl)
    (hn : σ0.rows.length ≤ k := by omega)
    (hg : Grew τ σ := by exact ⟨by first | exact ⟨[], (List.append_nil _).symm⟩ | exact ⟨_, rfl⟩, by first | exact ⟨[], (List.append_nil _).symm⟩ | exact ⟨_, rfl⟩, by first | exact ⟨[], (List.append_nil _).symm⟩ | exact ⟨_, rfl⟩⟩) :
    RetQ T rv (RX σ0 τ d [⟨xs, e, st⟩] [] []) .ret ⟨slots, σ⟩ := by
  subst hx
  refine ⟨C, r, h, hc, [k], [], [], kept1 hn, kept0 _, kept0 _, (hd _ _ _ rfl).symm, fun j R hj => ?_, by simp, by simp, hg⟩
  cases j with
  | zero => simp only [List.getElem?_cons_zero, Option.some.injEq] at hj; subst hj; exact hR
  | succ j => simp at hj
/-- One new variable. -/
theorem R_xb {xs ys : List DV} {ty : TypeId} {k : Nat} (hx : ys = xs) (hd : ∀ p q s, q 0 = k → d.ren p q s = r) (hc : C) (h : resD T ⟨slots, σ⟩ rv = some (C, r) := by simp (disch := omega) only [go_sem, resD, resDs, resD1]; exact rfl)
    (hR : σ.boxes[k]? = some (some ⟨ty, ys⟩) := by (try simp only [app_get, app_get0, List.getElem?_cons_succ, List.getElem?_cons_zero]) <;> exact rfl)
    (hn : σ0.boxes.length ≤ k := by omega)
    (hg : Grew τ σ := by exact ⟨by first | exact ⟨[], (List.append_nil _).symm⟩ | exact ⟨_, rfl⟩, by first | exact ⟨[], (List.append_nil _).symm⟩ | exact ⟨_, rfl⟩, by first | exact ⟨[], (List.append_nil _).symm⟩ | exact ⟨_, rfl⟩⟩) :
    RetQ T rv (RX σ0 τ d [] [⟨ty, xs⟩] []) .ret ⟨slots, σ⟩ := by
  subst hx
  refine ⟨C, r, h, hc, [], [k], [], kept0 _, kept1 hn, kept0 _, (hd _ _ _ rfl).symm, by simp, fun j R hj => ?_, by simp, hg⟩
  cases j with
  | zero => simp only [List.getElem?_cons_zero, Option.some.injEq] at hj; subst hj; exact hR
  | succ j => simp at hj
end
attribute [go_sem] DV.ren rens
end Go.Val
