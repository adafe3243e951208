/- Rows that grow: append, make, literals; and rows that are let be read alone from now on. -/
import Derived.Test.YtloeeiamgaljoaaVWr2
import Derived.Laws.Append
namespace Go.Val
open Go.RowKit
set_option linter.unusedSimpArgs false
set_option linter.unusedVariables false

theorem over_take {α : Type} (b es : List α) (k n : Nat) (h : k + es.length ≤ n) (hn : n ≤ b.length) : Val.over (b.take n) k es = (Val.over b k es).take n := by
  unfold Val.over
  rw [List.take_append, List.take_append, List.take_take, List.take_take, List.drop_take]
  simp only [List.length_append, List.length_take]
  rw [Nat.min_eq_left (show k ≤ n by omega), Nat.min_eq_right (show k ≤ n by omega), Nat.min_eq_left (show k ≤ b.length by omega)]
  rw [List.take_of_length_le (l := es) (by omega)]

section
variable {P : Program} {T : TypeId → TI} {s : St}

theorem cell1_cells {σ : Store} {c : DV} (h : Cell1 σ c) : c.cells = [c] := by cases c <;> first | rfl | exact h.elim

theorem Effect.storeRow (hT : TOK P T) {o : Oper} {t : TypeId} {p x : Operand} (ho : o.op = .store t p x) {id len i off : Nat} (hp : get s.slots p = .rp id len i off) {R : Row} (hR : s.σ.rows[id]? = some (some R))
    (hlen : R.xs.length = len) (hi : i < len) (hne : (T t).ty ≠ .other) (hf : FlatD s.σ (get s.slots x)) (hl : (get s.slots x).cells.length = (T t).size) (h1 : 0 < (T t).size) (hoff : off + (T t).size ≤ R.st) :
    Effect P s o (one .undef { s.σ with rows := s.σ.rows.set id (some { R with xs := R.xs.set i ((R.xs.getD i .undef).over off (get s.slots x).cells) }) }) := by
  intro w0 G a w hr
  have hx := get_rel w hr.2.1 x
  have hc := solid_cells w hr.2.2 hx hf.1
  have hpv := get_rel w hr.2.1 p
  rw [hp] at hpv
  generalize hpe : a.eval p = vp at hpv
  obtain ⟨h0, hall, A, n, c, hA, hn, hcap, hrow⟩ := hr.2.2.rows id R hR
  obtain ⟨g, arr, fr, rfl, hg, hh, hfr, hsz, hcell⟩ := hrow.resolve_left (by omega)
  cases hpv with
  | rp _ _ _ _ _ hid hle hv =>
    obtain ⟨g', n', c', e1, rfl⟩ := hv R hR hlen
    rw [hA] at e1
    injection e1 with e1 _ _; injection e1 with e1; injection e1 with e1; subst e1
    have hcl : (a.eval x).cells.toList.length = (T t).size := by rw [hc.1, hl]
    have hpos : i * R.st + off + (T t).size ≤ arr.size := by
      have : (i + 1) * R.st ≤ c * R.st := Nat.mul_le_mul_right _ (by omega)
      rw [Nat.succ_mul] at this
      omega
    obtain ⟨w', e1, e2, e3⟩ := run_storeCells_blk P g (i * R.st + off) R.e fr (a.eval x).cells.toList 0 arr w hh (by rw [hcl]; omega) hfr (flatD_ones hr.2.2 hc hf.2)
    rw [Nat.add_zero] at e3
    have hne' : ∀ k, G.own k ≠ .row id → k ≠ g := fun k hk e => by subst e; exact hk hg
    obtain ⟨h1, h2⟩ := hr.2.2.row_set (G' := { G with rowV := updN G.rowV id (G.rowV id) }) (w' := w') hR (xs := R.xs.set i ((R.xs.getD i .undef).over off (get s.slots x).cells)) (u := G.rowV id) (by simp) (fun _ => rfl)
      (fun k => .inr (.inl rfl)) (fun _ _ _ => rfl) (fun k hk => .inl hk) rfl rfl rfl
      (by
        have ht := hr.2.2.trk g (by rw [hg]; simp) (by rw [hg]; simp)
        exact hr.2.2.below.trans ⟨e2.os, e2.tape, e2.output, by rw [e2.size]; exact Nat.le_refl _, fun k hk => e2.other k (by omega)⟩)
      (fun k hk => by rw [e2.size]; exact hr.2.2.lt k hk) (fun k _ hk => e2.other k (hne' k hk))
      (by
        intro hE
        have hxl : (R.xs.getD i .undef).cells.length = R.st := by rw [List.getD_eq_getElem?_getD, List.getElem?_eq_getElem (by omega)]; exact hall _ (List.getElem_mem _)
        refine ⟨h0, ?_, some ⟨g, 0, none⟩, n, c, by simp [hA], by simpa using hn, hcap, .inr ⟨g, _, fr, rfl, hg, e3, by simpa [over_len _ _ _ (show i * R.st + off + (a.eval x).cells.toList.length ≤ arr.toList.length by rw [hcl]; simpa using hpos)] using hfr, by simpa [over_len _ _ _ (show i * R.st + off + (a.eval x).cells.toList.length ≤ arr.toList.length by rw [hcl]; simpa using hpos)] using hsz, ?_⟩⟩
        · intro y hy
          rcases List.mem_or_eq_of_mem_set hy with hy | rfl
          · exact hall y hy
          · rw [over_cells (by rw [hl, hxl]; exact hoff) (by omega) (fun c hc => cell1_cells (hf.2 c hc)), over_len _ _ _ (by rw [hl, hxl]; exact hoff), hxl]
        · intro j d v hd hv
          simp only at hd
          rw [flat_over hall (by omega) (by rw [hl]; exact hoff) (by omega) (fun c hc => cell1_cells (hf.2 c hc))] at hd
          have hfl := flat_len hall
          have hrl : RelL G s.σ w (flat R.xs) (arr.toList.take (flat R.xs).length) := by
            have hfle : (flat R.xs).length ≤ arr.size := by rw [hfl, hsz]; exact Nat.mul_le_mul_right _ (by omega)
            refine ⟨by rw [List.length_take]; exact Nat.min_eq_left (by simpa using hfle), fun j d v hd hv => ?_⟩
            have hj := (List.getElem?_eq_some_iff.1 hd).1
            rw [List.getElem?_take, if_pos hj] at hv
            exact hcell j d v hd (by simpa using hv)
          have := (hrl.over w hc (i * R.st + off)).2 j d v hd (by
            have hj := (List.getElem?_eq_some_iff.1 hd).1
            have hob : i * R.st + off + (get s.slots x).cells.length ≤ (flat R.xs).length := by
              rw [hfl, hl]
              have : (i + 1) * R.st ≤ R.xs.length * R.st := Nat.mul_le_mul_right _ (by omega)
              rw [Nat.succ_mul] at this
              omega
            rw [over_len _ _ _ hob] at hj
            have hv' : (Val.over arr.toList (i * R.st + off) (a.eval x).cells.toList)[j]? = some v := by simpa using hv
            rw [← hv']
            have e4 : (a.eval x).cells.toList.length = (get s.slots x).cells.length := hc.1
            have hal : (flat R.xs).length ≤ arr.toList.length := by
              have := hrl.1
              rw [List.length_take] at this
              omega
            rw [over_take _ _ _ _ (by omega) hal, List.getElem?_take, if_pos hj])
          exact this.ext hE)
    refine ⟨.skip, w', Go.undef, .undef, _, _, ?_, .inr ⟨rfl, rfl⟩, ⟨rfl, rfl⟩, h1, h2, .undef _⟩
    simp only [execOp, ho, hpe, Instr.storeAt, Instr.sureAddr, Sem.run_bind, Sem.run_pure, Result.andThen_ok, storeVar, TOK.size hT w hne]
    rw [if_neg (by rw [← Array.length_toList, hcl]; simp)]
    simp [e1]
end
end Go.Val
