/- Rows and variables that are only read from now on. -/
import Derived.Test.YtloeeiamgaljoaaVApp3
namespace Go.Val
open Go.RowKit
set_option linter.unusedSimpArgs false
set_option linter.unusedVariables false

/-- The row's handle becomes what it holds. -/
def frz1 (id : Nat) (xs : List DV) : DV → DV
  | .row i len => if i = id ∧ len = xs.length then .sl xs else .row i len
  | d => d
def frz (id : Nat) (xs : List DV) : DV → DV
  | .row i len => if i = id ∧ len = xs.length then .sl xs else .row i len
  | .agg cs => .agg (cs.map (frz1 id xs))
  | .tup cs => .tup (cs.map (frz1 id xs))
  | d => d
/-- The variable's place becomes a pointer to what it holds. -/
def bfz1 (b : Nat) (cs : List DV) : DV → DV
  | .ptr i off => if i = b then .cp (cs.drop off) else .ptr i off
  | d => d
def bfz (b : Nat) (cs : List DV) : DV → DV
  | .ptr i off => if i = b then .cp (cs.drop off) else .ptr i off
  | .fn f fs ds => .fn f (fs.map (bfz1 b cs)) (ds.map (bfz1 b cs))
  | d => d

def St.freeze (s : St) (id : Nat) (xs : List DV) : St :=
  ⟨s.slots.map (frz id xs), { s.σ with rows := s.σ.rows.set id none, boxes := s.σ.boxes.map (Option.map fun B => { B with cs := B.cs.map (frz1 id xs) }) }⟩
def St.fix (s : St) (b : Nat) (cs : List DV) : St :=
  ⟨s.slots.map (bfz b cs), { s.σ with boxes := (s.σ.boxes.set b none).map (Option.map fun B => { B with cs := B.cs.map (bfz b cs) }) }⟩

section
variable {P : Program} {T : TypeId → TI} {s : St} {w0 : World} {G : Gh} {σ : Store} {w : World}

theorem RelL.map {cs : List DV} {vs : List Value} {G' : Gh} {σ' : Store} {w' : World} {f : DV → DV} (h : RelL G σ w cs vs) (hf : ∀ d v, RelV G σ w d v → RelV G' σ' w' (f d) v) : RelL G' σ' w' (cs.map f) vs := by
  refine ⟨by simpa using h.1, fun i c v hc hv => ?_⟩
  simp only [List.getElem?_map, Option.map_eq_some_iff] at hc
  obtain ⟨d, hd, rfl⟩ := hc
  exact hf d v (h.2 i d v hd hv)

theorem StoreRel.freeze (hS : StoreRel w0 G s.σ w) {id : Nat} {R : Row} (hR : s.σ.rows[id]? = some (some R)) :
    ∃ G', StoreRel w0 G' (s.freeze id R.xs).σ w ∧ Ext G s.σ w G' (s.freeze id R.xs).σ w ∧ (∀ d v, RelV G s.σ w d v → RelV G' (s.freeze id R.xs).σ w (frz id R.xs d) v) := by
  have hid := (List.getElem?_eq_some_iff.1 hR).1
  let G' : Gh := { G with own := fun k => if G.own k = .row id then .imm else G.own k }
  have hown : ∀ k, G'.own k = if G.own k = .row id then .imm else G.own k := fun _ => rfl
  have hx : Ext G s.σ w G' (s.freeze id R.xs).σ w := by
    refine ⟨fun k hk => ⟨by rw [hown, if_neg (by rw [hk]; simp)]; exact hk, rfl⟩, by simp [St.freeze], by simp [St.freeze], Nat.le_refl _, fun i R' hi hR' => ?_, fun _ _ => rfl, fun _ _ => rfl⟩
    simp only [St.freeze] at hR'
    by_cases e : i = id
    · subst e; rw [List.getElem?_set_self hid] at hR'; simp at hR'
    · rw [List.getElem?_set_ne (Ne.symm e)] at hR'
      exact ⟨R', hR', rfl, Nat.le_refl _, fun _ => rfl⟩
  have hrow : RelV G' (s.freeze id R.xs).σ w (.sl R.xs) (G.rowV id) := by
    obtain ⟨h0, hall, A, n, c, hA, hn, hcap, hrow⟩ := hS.rows id R hR
    obtain ⟨A', c', e4, hm⟩ := row_mem w hS hR
    rw [hA] at e4
    injection e4 with e4 _ e6
    subst e4; subst e6
    rw [hA, hn]
    refine RelV.sl_mk (by omega) hall ?_
    rcases hm with h | ⟨g, rfl, hm⟩
    · exact .inl h
    · rcases Nat.eq_zero_or_pos c with hc | hc
      · exact .inl (List.eq_nil_of_length_eq_zero (by omega))
      · obtain ⟨g', arr, fr, e, hg, _⟩ := hrow.resolve_left (by omega)
        injection e with e; injection e with e
        subst e
        obtain ⟨vs, h1, h2⟩ := hm
        exact .inr ⟨g, 0, rfl, by rw [hown, if_pos hg], vs, h1.ext hx, h2⟩
  have h1 : ∀ d v, RelV G s.σ w d v → RelV G' (s.freeze id R.xs).σ w (frz1 id R.xs d) v := by
    intro d v h
    cases d with
    | row i len =>
      simp only [frz1]
      split
      · rename_i e
        obtain ⟨rfl, rfl⟩ := e
        cases h with
        | row _ _ _ hid hle hv => rw [hv R hR rfl]; exact hrow
      · exact h.ext hx
    | _ => exact h.ext hx
  have h2 : ∀ d v, RelV G s.σ w d v → RelV G' (s.freeze id R.xs).σ w (frz id R.xs d) v := by
    intro d v h
    cases d with
    | row i len => exact h1 (.row i len) v h
    | agg cs =>
      cases h with
      | agg _ vs hl hr => have := RelL.map (f := frz1 id R.xs) ⟨hl, hr⟩ h1; exact .agg _ _ this.1 this.2
    | tup cs =>
      cases h with
      | tup _ vs hl hr => have := RelL.map (f := frz1 id R.xs) ⟨hl, hr⟩ h1; exact .tup _ _ this.1 this.2
    | _ => exact h.ext hx
  refine ⟨G', ⟨hS.below, fun k hk => ?_, fun k hk hi => ?_, fun i R' hR' => ?_, fun i B hB => ?_, fun i M hM => ?_⟩, hx, h2⟩
  · rw [hown] at hk
    split at hk
    · rename_i e; exact hS.lt k (by rw [e]; simp)
    · exact hS.lt k hk
  · rw [hown] at hk hi
    split at hk
    · rename_i e; rw [if_pos e] at hi; exact absurd rfl hi
    · rename_i e; rw [if_neg e] at hi; exact hS.trk k hk hi
  · simp only [St.freeze] at hR'
    by_cases e : i = id
    · subst e; rw [List.getElem?_set_self hid] at hR'; simp at hR'
    · rw [List.getElem?_set_ne (Ne.symm e)] at hR'
      exact (hS.rows i R' hR').keep hx rfl (fun k hk => ⟨by rw [hown, if_neg (by rw [hk]; simpa using e)]; exact hk, rfl⟩)
  · simp only [St.freeze, List.getElem?_map] at hB
    simp only [Option.map_eq_some_iff] at hB
    obtain ⟨oB, hoB, hB⟩ := hB
    cases oB with
    | none => simp at hB
    | some B0 =>
      simp at hB
      subst hB
      obtain ⟨ho, arr, hh, hrel⟩ := hS.boxes i B0 hoB
      exact ⟨by rw [hown, if_neg (by rw [ho]; simp)]; exact ho, arr, hh, hrel.map h1⟩
  · exact (hS.maps i M hM).keep hx rfl (fun k hk => ⟨by rw [hown, if_neg (by rw [hk]; simp)]; exact hk, rfl⟩)

theorem EvL_freeze {Q : Exit → St → Prop} {ops : Array Oper} {l : List Oper} (id : Nat) {R : Row} (hR : s.σ.rows[id]? = some (some R)) (h : EvL P ops l (s.freeze id R.xs) Q) : EvL P ops l s Q := by
  intro w0 G0 σ0 W0 G a w hx hr
  obtain ⟨G', h1, h2, h3⟩ := hr.2.2.freeze (s := s) hR
  exact h w0 G0 σ0 W0 G' a w (hx.trans h2) ⟨hr.1, hr.2.1.map h3, h1⟩
theorem Ev_freeze {Q : Exit → St → Prop} {c : Code} (id : Nat) {R : Row} (hR : s.σ.rows[id]? = some (some R)) (h : Ev P c (s.freeze id R.xs) Q) : Ev P c s Q := by
  intro w0 G0 σ0 W0 G a w hx hr
  obtain ⟨G', h1, h2, h3⟩ := hr.2.2.freeze (s := s) hR
  exact h w0 G0 σ0 W0 G' a w (hx.trans h2) ⟨hr.1, hr.2.1.map h3, h1⟩

theorem StoreRel.fix (hS : StoreRel w0 G s.σ w) {b : Nat} {B : Box} (hB : s.σ.boxes[b]? = some (some B)) :
    ∃ G', StoreRel w0 G' (s.fix b B.cs).σ w ∧ Ext G s.σ w G' (s.fix b B.cs).σ w ∧ (∀ d v, RelV G s.σ w d v → RelV G' (s.fix b B.cs).σ w (bfz b B.cs d) v) := by
  have hid := (List.getElem?_eq_some_iff.1 hB).1
  let G' : Gh := { G with own := fun k => if G.own k = .box b then .imm else G.own k }
  have hown : ∀ k, G'.own k = if G.own k = .box b then .imm else G.own k := fun _ => rfl
  have hx : Ext G s.σ w G' (s.fix b B.cs).σ w :=
    ⟨fun k hk => ⟨by rw [hown, if_neg (by rw [hk]; simp)]; exact hk, rfl⟩, by simp [St.fix], by simp [St.fix], Nat.le_refl _, fun i R' hi hR' => ⟨R', hR', rfl, Nat.le_refl _, fun _ => rfl⟩, fun _ _ => rfl, fun _ _ => rfl⟩
  obtain ⟨hob, _⟩ := hS.boxes b B hB
  have hptr : ∀ off, RelV G' (s.fix b B.cs).σ w (.cp (B.cs.drop off)) (.pointer (some ⟨G.boxB b, off, none⟩)) := by
    intro off
    have hm := (box_mem w hS hB).drop off
    rw [Nat.zero_add] at hm
    obtain ⟨vs, h1, h2⟩ := hm
    exact RelV.cp_mk (by rw [hown, if_pos hob]) ⟨vs, h1.ext hx, h2⟩
  have h1 : ∀ d v, RelV G s.σ w d v → RelV G' (s.fix b B.cs).σ w (bfz1 b B.cs d) v := by
    intro d v h
    cases d with
    | ptr i off =>
      simp only [bfz1]
      split
      · rename_i e
        subst e
        cases h with
        | ptr _ _ hb => exact hptr off
      · exact h.ext hx
    | _ => exact h.ext hx
  have h2 : ∀ d v, RelV G s.σ w d v → RelV G' (s.fix b B.cs).σ w (bfz b B.cs d) v := by
    intro d v h
    cases d with
    | ptr i off => exact h1 (.ptr i off) v h
    | fn f fs cs =>
      cases h with
      | fn _ _ _ us vs hf hF hl hr =>
        have k1 := RelL.map (f := bfz1 b B.cs) ⟨hf, hF⟩ h1
        have k2 := RelL.map (f := bfz1 b B.cs) ⟨hl, hr⟩ h1
        exact .fn _ _ _ _ _ k1.1 k1.2 k2.1 k2.2
    | _ => exact h.ext hx
  refine ⟨G', ⟨hS.below, fun k hk => ?_, fun k hk hi => ?_, fun i R' hR' => ?_, fun i B' hB' => ?_, fun i M hM => ?_⟩, hx, h2⟩
  · rw [hown] at hk
    split at hk
    · rename_i e; exact hS.lt k (by rw [e]; simp)
    · exact hS.lt k hk
  · rw [hown] at hk hi
    split at hk
    · rename_i e; rw [if_pos e] at hi; exact absurd rfl hi
    · rename_i e; rw [if_neg e] at hi; exact hS.trk k hk hi
  · exact (hS.rows i R' hR').keep hx rfl (fun k hk => ⟨by rw [hown, if_neg (by rw [hk]; simp)]; exact hk, rfl⟩)
  · simp only [St.fix, List.getElem?_map, Option.map_eq_some_iff] at hB'
    obtain ⟨oB, hoB, hB'⟩ := hB'
    cases oB with
    | none => simp at hB'
    | some B0 =>
      simp at hB'
      subst hB'
      have hne : i ≠ b := by
        intro e
        subst e
        rw [List.getElem?_set_self hid] at hoB
        simp at hoB
      rw [List.getElem?_set_ne (Ne.symm hne)] at hoB
      obtain ⟨ho, arr, hh, hrel⟩ := hS.boxes i B0 hoB
      exact ⟨by rw [hown, if_neg (by rw [ho]; simpa using hne)]; exact ho, arr, hh, hrel.map h2⟩
  · exact (hS.maps i M hM).keep hx rfl (fun k hk => ⟨by rw [hown, if_neg (by rw [hk]; simp)]; exact hk, rfl⟩)

theorem EvL_fix {Q : Exit → St → Prop} {ops : Array Oper} {l : List Oper} (b : Nat) {B : Box} (hB : s.σ.boxes[b]? = some (some B)) (h : EvL P ops l (s.fix b B.cs) Q) : EvL P ops l s Q := by
  intro w0 G0 σ0 W0 G a w hx hr
  obtain ⟨G', h1, h2, h3⟩ := hr.2.2.fix (s := s) hB
  exact h w0 G0 σ0 W0 G' a w (hx.trans h2) ⟨hr.1, hr.2.1.map h3, h1⟩
theorem Ev_fix {Q : Exit → St → Prop} {c : Code} (b : Nat) {B : Box} (hB : s.σ.boxes[b]? = some (some B)) (h : Ev P c (s.fix b B.cs) Q) : Ev P c s Q := by
  intro w0 G0 σ0 W0 G a w hx hr
  obtain ⟨G', h1, h2, h3⟩ := hr.2.2.fix (s := s) hB
  exact h w0 G0 σ0 W0 G' a w (hx.trans h2) ⟨hr.1, hr.2.1.map h3, h1⟩

/-- Slots that say less. -/
theorem Ev_le {Q : Exit → St → Prop} {c : Code} {slots' : List DV} (hle : LeL s.slots slots') (h : Ev P c ⟨slots', s.σ⟩ Q) : Ev P c s Q :=
  fun w0 G0 σ0 W0 G a w hx hr => h w0 G0 σ0 W0 G a w hx ⟨hr.1, hle _ _ _ _ hr.2.1, hr.2.2⟩

end
end Go.Val
