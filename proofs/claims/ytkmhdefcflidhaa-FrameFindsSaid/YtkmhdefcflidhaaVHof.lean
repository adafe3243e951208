/- Functions that are handed a function: what it says of each thing. -/
import Derived.Test.YtkmhdefcflidhaaVFx2
namespace Go.Val
open Go.RowKit
set_option linter.unusedSimpArgs false
set_option linter.unusedVariables false

/-- A function, with what is bound to it, that tells something of each thing. -/
class PredC (P : Program) (g : FuncId) (fs cs : List DV) (dom : outParam (DV → Prop)) (p : outParam (DV → Bool)) : Prop where
  fn : FnAt P g
  ok : ∀ x, dom x → Pure P g (fs ++ [x] ++ cs) (.bool (p x))
  nm : nameds 0 0 0 fs = true ∧ nameds 0 0 0 cs = true
theorem PredC.of {P : Program} {g : FuncId} {fs cs : List DV} {dom : DV → Prop} {p : DV → Bool} (fn : FnAt P g) (ok : ∀ x, dom x → Pure P g (fs ++ [x] ++ cs) (.bool (p x))) (nm : nameds 0 0 0 fs = true ∧ nameds 0 0 0 cs = true := by first | exact ⟨rfl, rfl⟩ | (simp [nameds, DV.named, bytes_named, go_sem]; done)) : PredC P g fs cs dom p := ⟨fn, ok, nm⟩
theorem PredC.nmf {P : Program} {g : FuncId} {fs cs : List DV} {dom : DV → Prop} {p : DV → Bool} (h : PredC P g fs cs dom p) (r b m : Nat) : nameds r b m fs = true ∧ nameds r b m cs = true := ⟨nameds_mono (Nat.zero_le _) (Nat.zero_le _) (Nat.zero_le _) _ h.nm.1, nameds_mono (Nat.zero_le _) (Nat.zero_le _) (Nat.zero_le _) _ h.nm.2⟩
theorem PredC.fnc {P : Program} {g : FuncId} {fs cs : List DV} {dom : DV → Prop} {p : DV → Bool} (h : PredC P g fs cs dom p) : FnC P g := ⟨h.fn⟩
theorem PredC.con {P : Program} {g : FuncId} {fs cs : List DV} {dom : DV → Prop} {p : DV → Bool} (h : PredC P g fs cs dom p) (x : DV) : Con P g (fs ++ (x :: cs)) (dom x) (.bool (p x)) :=
  ⟨fun hd => by have := h.ok x hd; simpa using this⟩
theorem fi_lt {p : DV → Bool} {xs : List DV} {i : Nat} (h : i < xs.findIdx p) : p (xs.getD i .undef) = false := by
  have hl : i < xs.length := Nat.lt_of_lt_of_le h List.findIdx_le_length
  have := List.not_of_lt_findIdx h
  rw [List.getD_eq_getElem?_getD, List.getElem?_eq_getElem hl]
  simpa using this
theorem fi_eq {p : DV → Bool} {xs : List DV} (h : xs.findIdx p < xs.length) : p (xs.getD (xs.findIdx p) .undef) = true := by
  rw [List.getD_eq_getElem?_getD, List.getElem?_eq_getElem h]
  exact List.findIdx_getElem (w := h)
/-- Where the first one is, or -1. -/
def idxI (p : DV → Bool) (xs : List DV) : Int := if xs.findIdx p < xs.length then (xs.findIdx p : Nat) else -1
theorem idxI_any (p : DV → Bool) (xs : List DV) : decide (0 ≤ idxI p xs) = xs.any p := by
  unfold idxI
  by_cases h : xs.findIdx p < xs.length
  · rw [if_pos h]
    have : xs.any p = true := by rw [List.any_eq_true]; exact ⟨_, List.getElem_mem h, List.findIdx_getElem (w := h)⟩
    rw [this]; simp
  · rw [if_neg h]
    have : xs.any p = false := by
      rw [List.any_eq_false]
      intro x hx
      have e : xs.findIdx p = xs.length := Nat.le_antisymm List.findIdx_le_length (Nat.le_of_not_lt h)
      rw [List.findIdx_eq_length] at e
      simp [e x hx]
    rw [this]; simp
theorem idxI_lt (p : DV → Bool) (xs : List DV) : -1 ≤ idxI p xs ∧ (idxI p xs < xs.length) := by
  unfold idxI; split <;> omega
theorem getD_mem {xs : List DV} {i : Nat} (h : i < xs.length) : xs.getD i .undef ∈ xs := by
  rw [List.getD_eq_getElem?_getD, List.getElem?_eq_getElem h]; exact List.getElem_mem h
/-- A new row that is only read. -/
theorem PureOwn.pure {P : Program} {f : FuncId} {args xs : List DV} {e : TypeId} {st : Nat} (h : PureOwn P f args xs e st) (hn : nameds 0 0 0 xs = true) : Pure P f args (.sl xs) := by
  refine Pure.of2 (by simpa only [DV.named] using hn) (fun σ => (h σ).mono ?_)
  rintro r σ' ⟨rfl, rfl⟩
  refine ⟨.row σ.rows.length ⟨xs, e, st⟩ (Nat.le_refl _) (by simp) ?_, ⟨⟨_, rfl⟩, ⟨[], (List.append_nil _).symm⟩, ⟨[], (List.append_nil _).symm⟩⟩⟩
  have : frzA σ.rows.length xs (.row σ.rows.length xs.length) = .sl xs := by simp [frzA]
  rw [this]
  exact .done
section
variable {slots : List DV} {σ : Store} {Q : Exit → St → Prop} {s : Nat → List DV} {st : Nat → Store} {n i : Nat} {Rb R R' rg : List (Option Row)} {A B B' bg : List (Option Box)} {Mb M M' mg : List (Option (List (DV × DV)))}
/-- A round that writes rows and variables of its call's own, and leaves others behind. -/
theorem Q_rndC (hle : LeL slots (s (i + 1))) (hi : i < n) (h0 : st i = ⟨Rb ++ R, A ++ B, Mb ++ M⟩) (h1 : st (i + 1) = ⟨Rb ++ R', A ++ B', Mb ++ M'⟩) (hr : σ.rows = Rb ++ (R' ++ rg)) (hb : σ.boxes = A ++ (B' ++ bg)) (hm : σ.maps = Mb ++ (M' ++ mg))
    (l1 : R.length ≤ R'.length) (l2 : B.length ≤ B'.length) (l3 : M.length ≤ M'.length) (hn : nameds (Rb ++ R').length (A ++ B').length (Mb ++ M').length (s (i + 1)) = true)
    (hR : ∀ x ∈ R', ∀ b, x = some b → nameds (Rb ++ R').length (A ++ B').length (Mb ++ M').length b.xs = true)
    (hB : ∀ x ∈ B', ∀ b, x = some b → nameds (Rb ++ R').length (A ++ B').length (Mb ++ M').length b.cs = true)
    (hM : ∀ x ∈ M', ∀ b, x = some b → ∀ p ∈ b, p.1.named (Rb ++ R').length (A ++ B').length (Mb ++ M').length = true ∧ p.2.named (Rb ++ R').length (A ++ B').length (Mb ++ M').length = true) :
    RoundG s st n i Q .normal ⟨slots, σ⟩ := by
  refine Q_rndG hi ⟨hle, ?_, ?_, ?_, ?_⟩
  · rw [h1]; exact ⟨⟨rg, by rw [hr, List.append_assoc]⟩, ⟨bg, by rw [hb, List.append_assoc]⟩, ⟨mg, by rw [hm, List.append_assoc]⟩⟩
  · rw [h0, h1]; simp; omega
  · rw [h1]; exact hn
  · rw [h0, h1]
    refine ⟨fun id R0 h => ?_, fun id b h => ?_, fun id b h => ?_⟩
    · simp only at h ⊢
      rcases Nat.lt_or_ge id Rb.length with hlt | hge
      · rw [List.getElem?_append_left hlt] at h ⊢
        exact .inl h
      · rw [List.getElem?_append_right hge] at h
        exact .inr (hR _ (List.mem_of_getElem? h) R0 rfl)
    · simp only at h ⊢
      rcases Nat.lt_or_ge id A.length with hlt | hge
      · rw [List.getElem?_append_left hlt] at h ⊢
        exact .inl h
      · rw [List.getElem?_append_right hge] at h
        exact .inr (hB _ (List.mem_of_getElem? h) b rfl)
    · simp only at h ⊢
      rcases Nat.lt_or_ge id Mb.length with hlt | hge
      · rw [List.getElem?_append_left hlt] at h ⊢
        exact .inl h
      · rw [List.getElem?_append_right hge] at h
        exact .inr (hM _ (List.mem_of_getElem? h) b rfl)
/-- A row that a variable has. -/
def rowInB : List (Option Box) → Option (Nat × Nat)
  | [] => none
  | none :: l => rowInB l
  | some b :: l => match rowInL b.cs with
    | some p => some p
    | none => rowInB l
theorem W_frzBx {P : Program} {c : Code} {slots' : List DV} {id len : Nat} {Rw : Row} {B' : List (Option Box)} {rows' : List (Option Row)} {maps : List (Option (List (DV × DV)))} {rows : List (Option Row)} (k : Ev P c ⟨slots', ⟨rows', A ++ B', maps⟩⟩ Q)
    (hi : rowInB B = some (id, len) := by simp only [rowInB, rowInL, DV.rowIn]; exact rfl)
    (hR : rows[id]? = some (some Rw) := by (try simp only [app_get, app_get0, List.getElem?_cons_succ, List.getElem?_cons_zero]) <;> exact rfl)
    (hl : Rw.xs.length = len := by first | rfl | (simp only [go_sem]; done) | (simp only [go_sem]; omega))
    (hs : frzAtL id len Rw.xs slots = slots' := by simp (disch := omega) only [frzAt, frzAtL, if_pos, if_neg, and_self, if_true]; exact rfl)
    (hB : B.map (frzBox id len Rw.xs) = B' := by simp (disch := omega) only [frzBox, List.map_cons, List.map_nil, frzAt, frzAtL, if_pos, if_neg, and_self, if_true]; exact rfl)
    (hr : rows.set id none = rows' := by (try simp only [app_set, app_set0, List.set_cons_succ, List.set_cons_zero]) <;> exact rfl) : Ev P c ⟨slots, ⟨rows, A ++ B, maps⟩⟩ Q := by
  subst hl; subst hs; subst hB; subst hr
  intro w0 G0 σ0 W0 G a w hx hr
  obtain ⟨G', h1, h2, h3⟩ := hr.frzB hR rfl
  exact k w0 G0 σ0 W0 G' a w (hx.trans h2) h1
theorem allN_nil {α : Type} (p : α → Prop) : ∀ x ∈ ([] : List (Option α)), ∀ b, x = some b → p b := by simp
theorem allN_none {α : Type} {p : α → Prop} {l : List (Option α)} (h : ∀ x ∈ l, ∀ b, x = some b → p b) : ∀ x ∈ none :: l, ∀ b, x = some b → p b := by
  intro x hx b hb
  rcases List.mem_cons.1 hx with rfl | hx
  · cases hb
  · exact h x hx b hb
theorem allN_some {α : Type} {p : α → Prop} {a : α} {l : List (Option α)} (ha : p a) (h : ∀ x ∈ l, ∀ b, x = some b → p b) : ∀ x ∈ some a :: l, ∀ b, x = some b → p b := by
  intro x hx b hb
  rcases List.mem_cons.1 hx with rfl | hx
  · cases hb; exact ha
  · exact h x hx b hb
theorem fx_app (σ : Store) : σ.rows ++ [] = σ.rows ∧ σ.boxes ++ [] = σ.boxes ∧ σ.maps ++ [] = σ.maps := ⟨List.append_nil _, List.append_nil _, List.append_nil _⟩
end
end Go.Val
