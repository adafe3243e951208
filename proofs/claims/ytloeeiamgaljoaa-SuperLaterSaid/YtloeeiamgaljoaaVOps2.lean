/- The machine answers what the operations on data say: reading memory, fields, elements, cuts, conversions. -/
import Derived.Test.YtloeeiamgaljoaaVOps
import Derived.Laws.BytesArg
namespace Go.Val
open Go.RowKit
set_option linter.unusedSimpArgs false
set_option linter.unusedVariables false

section
variable {P : Program} {T : TypeId → TI} {G : Gh} {σ : Store} (w : World)

theorem TOK.undP (hT : TOK P T) {t : TypeId} {y : Ty} (h : (T t).ty = y) (hne : y ≠ .other) : ∃ d, P.underlying t = some d ∧ TyRel y d := by
  obtain ⟨i, d, _, hu, hr, _⟩ := hT t ⟨_, h, hne⟩
  exact ⟨d, hu, h ▸ hr⟩
theorem TOK.undP_int (hT : TOK P T) {t : TypeId} {k : IntKind} (h : (T t).ty = .int k) : P.underlying t = some (.int k) := by
  obtain ⟨d, a, b⟩ := TOK.undP hT h (by simp); simp only [TyRel] at b; rw [a, b]
theorem TOK.undP_str (hT : TOK P T) {t : TypeId} (h : (T t).ty = .str) : P.underlying t = some .string := by
  obtain ⟨d, a, b⟩ := TOK.undP hT h (by simp); simp only [TyRel] at b; rw [a, b]
theorem TOK.undP_slice (hT : TOK P T) {t e : TypeId} (h : (T t).ty = .slice e) : P.underlying t = some (.slice e) := by
  obtain ⟨d, a, b⟩ := TOK.undP hT h (by simp); simp only [TyRel] at b; rw [a, b]

theorem unD_sound {op : UnOp} {x : DV} {vx : Value} {C : Prop} {d : DV} (hx : RelV G σ w x vx) (h : unD op x = some (C, d)) : VRun P G σ w (Op.unary op vx) d := by
  unfold unD at h
  split at h
  · simp only [Option.some.injEq, Prod.mk.injEq] at h; obtain ⟨rfl, rfl⟩ := h; cases hx
    exact ⟨_, rfl, .int _ _⟩
  · simp only [Option.some.injEq, Prod.mk.injEq] at h; obtain ⟨rfl, rfl⟩ := h; cases hx
    exact ⟨_, rfl, .int _ _⟩
  · simp only [Option.some.injEq, Prod.mk.injEq] at h; obtain ⟨rfl, rfl⟩ := h; cases hx
    exact ⟨_, rfl, .bool _⟩
  · simp at h

end

section
variable {G : Gh} {σ : Store} {w : World}
/-- What lies at a place. -/
def MemAt (G : Gh) (σ : Store) (w : World) (b o : Nat) (cs : List DV) : Prop :=
  ∃ vs, RelL G σ w cs vs ∧ ∀ (j : Nat) v, vs[j]? = some v → w.cell? ⟨b, o + j, none⟩ = some v

theorem MemAt.of_fun {b o : Nat} {cs : List DV} {vs : Nat → Value} (hm : ∀ i, i < cs.length → w.cell? ⟨b, o + i, none⟩ = some (vs i))
    (hr : ∀ (i : Nat) d, cs[i]? = some d → RelV G σ w d (vs i)) : MemAt G σ w b o cs := by
  refine ⟨(List.range cs.length).map vs, ⟨by simp, fun i c v hc hv => ?_⟩, fun j v hv => ?_⟩
  · have hi := (List.getElem?_eq_some_iff.1 hc).1
    simp [hi] at hv
    exact hv ▸ hr i c hc
  · have hj : j < cs.length := by have := (List.getElem?_eq_some_iff.1 hv).1; simpa using this
    simp [hj] at hv
    rw [hm j hj, hv]
theorem MemAt.drop {b o : Nat} {cs : List DV} (h : MemAt G σ w b o cs) (k : Nat) : MemAt G σ w b (o + k) (cs.drop k) := by
  obtain ⟨vs, hr, hm⟩ := h
  refine ⟨vs.drop k, hr.drop k, fun j v hv => ?_⟩
  rw [List.getElem?_drop] at hv
  rw [Nat.add_assoc]; exact hm _ v hv
theorem MemAt.take {b o : Nat} {cs : List DV} (h : MemAt G σ w b o cs) (k : Nat) : MemAt G σ w b o (cs.take k) := by
  obtain ⟨vs, hr, hm⟩ := h
  refine ⟨vs.take k, hr.take k, fun j v hv => ?_⟩
  rw [List.getElem?_take] at hv
  split at hv
  · exact hm _ v hv
  · simp at hv
theorem MemAt.to_fun {b o : Nat} {cs : List DV} (h : MemAt G σ w b o cs) : ∃ vs : Nat → Value, (∀ i, i < cs.length → w.cell? ⟨b, o + i, none⟩ = some (vs i)) ∧ ∀ (i : Nat) d, cs[i]? = some d → RelV G σ w d (vs i) := by
  obtain ⟨vs, hr, hm⟩ := h
  refine ⟨fun i => vs.getD i Go.undef, fun i hi => ?_, fun i d hd => ?_⟩
  · have : i < vs.length := by rw [hr.1]; exact hi
    exact hm i _ (by simp [List.getD_eq_getElem?_getD, List.getElem?_eq_getElem this])
  · obtain ⟨v, hv, h⟩ := hr.get hd
    simp [List.getD_eq_getElem?_getD, hv, h]

end

section
variable {P : Program} {T : TypeId → TI} {G : Gh} {σ : Store} (w : World)

theorem part_sound (hT : TOK P T) {cs : List DV} {vs : List Value} (hr : RelL G σ w cs vs) {t : TypeId} {off : Nat} {C : Prop} {d : DV}
    (h : partD T t cs off = some (C, d)) (hc : C) : VRun P G σ w (part t vs.toArray off) d := by
  unfold partD at h
  split at h <;> rename_i ha <;> simp only [Option.some.injEq, Prod.mk.injEq] at h <;> obtain ⟨rfl, rfl⟩ := h
  · refine ⟨.agg ((vs.drop off).take (T t).size).toArray, ?_, .agg _ _ ((hr.drop off).take _).1 ((hr.drop off).take _).2⟩
    simp [part, TOK.isAgg hT w hc.1, TOK.size hT w hc.1, ha]
  · have hl : off < vs.length := by rw [hr.1]; exact hc.2
    refine ⟨vs[off], ?_, ?_⟩
    · simp [part, TOK.isAgg hT w hc.1, ha, List.getElem?_eq_getElem hl]
    · exact hr.2 off _ _ (by rw [List.getD_eq_getElem?_getD, List.getElem?_eq_getElem hc.2]; rfl) (List.getElem?_eq_getElem hl)

theorem loadVar_sound (hT : TOK P T) {b o : Nat} {cs : List DV} (hm : MemAt G σ w b o cs) {t : TypeId} {off : Nat} {C : Prop} {d : DV}
    (h : partD T t cs off = some (C, d)) (hc : C) : VRun P G σ w (loadVar t ⟨b, o + off, none⟩) d := by
  unfold partD at h
  split at h <;> rename_i ha <;> simp only [Option.some.injEq, Prod.mk.injEq] at h <;> obtain ⟨rfl, rfl⟩ := h
  · obtain ⟨vs, hr, hv⟩ := (hm.drop off).take (T t).size
    refine ⟨.agg vs.toArray, ?_, .agg _ _ hr.1 hr.2⟩
    have hlen : vs.length = (T t).size := by rw [hr.1]; simp; omega
    have hl := run_loadCells_list (P := P) w ⟨b, o + off, none⟩ vs (fun j v hj => by rw [Addr_add]; exact hv j v hj)
    rw [hlen] at hl
    simp [loadVar, TOK.isAgg hT w hc.1, TOK.size hT w hc.1, ha, hl]
  · obtain ⟨vs, hr, hv⟩ := hm
    have hl : off < vs.length := by rw [hr.1]; exact hc.2
    refine ⟨vs[off], ?_, ?_⟩
    · have := hv off _ (List.getElem?_eq_getElem hl)
      simp [loadVar, TOK.isAgg hT w hc.1, ha, this]
    · exact hr.2 off _ _ (by rw [List.getD_eq_getElem?_getD, List.getElem?_eq_getElem hc.2]; rfl) (List.getElem?_eq_getElem hl)

theorem fieldOff_gs (hT : TOK P T) {s : TypeId} {f : Nat} {t off : Nat} (h : fieldOff T s f = some (t, off)) :
    ∃ gs fd, (underlying s).run P w = .ok (.struct gs) w ∧ gs[f]? = some fd ∧ fd.type = t ∧ fd.offset = off := by
  unfold fieldOff at h
  split at h
  · rename_i fs hy
    obtain ⟨gs, a, e⟩ := TOK.und_struct hT w hy
    subst e
    simp at h
    obtain ⟨fd, h1, h2, h3⟩ := h
    exact ⟨gs, fd, a, h1, h2, h3⟩
  · simp at h

theorem fieldD_sound (hT : TOK P T) {s : TypeId} {x : DV} {vx : Value} {f : Nat} {C : Prop} {d : DV} (hx : RelV G σ w x vx)
    (h : fieldD T s x f = some (C, d)) (hc : C) : VRun P G σ w (Instr.field s vx f) d := by
  unfold fieldD at h
  split at h
  · rename_i cs t off hf
    obtain ⟨gs, fd, a, b, rfl, rfl⟩ := fieldOff_gs (P := P) w hT hf
    cases hx with
    | agg cs vs hl hr =>
      obtain ⟨v, hv, hd⟩ := part_sound w hT ⟨hl, hr⟩ h hc
      exact ⟨v, by simp [Instr.field, a, b, asAgg, hv], hd⟩
  · simp at h

theorem fieldAddrD_sound (hT : TOK P T) {s : TypeId} {x : DV} {vx : Value} {f : Nat} {C : Prop} {d : DV} (hx : RelV G σ w x vx)
    (hrow : ∀ id len i o, x = .rp id len i o → ∃ R, σ.rows[id]? = some (some R) ∧ R.xs.length = len)
    (h : fieldAddrD T s x f = some (C, d)) (hc : C) : VRun P G σ w (Instr.fieldAt s vx f) d := by
  unfold fieldAddrD at h
  split at h
  · rename_i t off hf
    obtain ⟨gs, fd, a, b, rfl, rfl⟩ := fieldOff_gs (P := P) w hT hf
    split at h <;> simp only [Option.some.injEq, Prod.mk.injEq, reduceCtorEq] at h
    · obtain ⟨rfl, rfl⟩ := h
      cases hx with
      | ptr b1 o1 hb =>
        refine ⟨_, ?_, .ptr _ _ hb⟩
        simp [Instr.fieldAt, a, b, Instr.sureAddr, fieldPlace, TOK.size hT w hc.1, hc.2, Addr_add]
    · obtain ⟨rfl, rfl⟩ := h
      cases hx with
      | cp cs b' o' vs him hm hr =>
        obtain ⟨us, h1, h2⟩ := ((MemAt.of_fun hm hr).drop fd.offset).to_fun
        refine ⟨.pointer (some ⟨b', o' + fd.offset, none⟩), ?_, .cp _ _ _ us him h1 h2⟩
        simp [Instr.fieldAt, a, b, Instr.sureAddr, fieldPlace, TOK.size hT w hc.1, hc.2, Addr_add]
    · obtain ⟨rfl, rfl⟩ := h
      rename_i id len i o
      obtain ⟨R, hR, hRl⟩ := hrow _ _ _ _ rfl
      cases hx with
      | rp id len i o v hid hle hv =>
        obtain ⟨g, n, c, e1, rfl⟩ := hv R hR hRl
        refine ⟨.pointer (some ⟨g, i * R.st + o + fd.offset, none⟩), ?_, .rp _ _ _ _ _ hid hle (fun R' hR' hl' => ?_)⟩
        · simp [Instr.fieldAt, a, b, Instr.sureAddr, fieldPlace, TOK.size hT w hc.1, hc.2, Addr_add]
        · rw [hR] at hR'; injection hR' with hR'; injection hR' with hR'; subst hR'
          exact ⟨g, n, c, e1, by rw [Nat.add_assoc]⟩
  · simp at h

theorem flat_len {xs : List DV} {st : Nat} (h : ∀ x ∈ xs, x.cells.length = st) : (flat xs).length = xs.length * st := by
  induction xs with
  | nil => simp [flat]
  | cons x xs ih =>
    simp only [flat, List.flatMap_cons, List.length_append, List.length_cons] at *
    rw [h x (by simp), ih (fun y hy => h y (by simp [hy])), Nat.add_mul, Nat.one_mul, Nat.add_comm]
theorem flat_take {xs : List DV} {st : Nat} (h : ∀ x ∈ xs, x.cells.length = st) (k : Nat) : flat (xs.take k) = (flat xs).take (k * st) := by
  induction xs generalizing k with
  | nil => simp [flat]
  | cons x xs ih =>
    cases k with
    | zero => simp [flat]
    | succ k =>
      have hx := h x (by simp)
      have := ih (fun y hy => h y (by simp [hy])) k
      simp only [flat, List.take_succ_cons, List.flatMap_cons] at *
      rw [this, Nat.succ_mul, List.take_append, List.take_of_length_le (l := x.cells) (by rw [hx]; omega), hx, Nat.add_sub_cancel]
theorem flat_drop {xs : List DV} {st : Nat} (h : ∀ x ∈ xs, x.cells.length = st) (k : Nat) : flat (xs.drop k) = (flat xs).drop (k * st) := by
  induction xs generalizing k with
  | nil => simp [flat]
  | cons x xs ih =>
    cases k with
    | zero => simp
    | succ k =>
      have hx := h x (by simp)
      have := ih (fun y hy => h y (by simp [hy])) k
      simp only [flat, List.drop_succ_cons, List.flatMap_cons] at *
      rw [this, Nat.succ_mul, List.drop_append, List.drop_of_length_le (l := x.cells) (by rw [hx]; omega), hx, Nat.add_sub_cancel, List.nil_append]
theorem flat_append (xs ys : List DV) : flat (xs ++ ys) = flat xs ++ flat ys := by simp [flat]
theorem flat_at {xs : List DV} {st : Nat} (h : ∀ x ∈ xs, x.cells.length = st) (i : Nat) (hi : i < xs.length) : ((flat xs).drop (i * st)).take st = (xs.getD i .undef).cells := by
  rw [← flat_drop h, List.drop_eq_getElem_cons hi]
  simp only [flat, List.flatMap_cons]
  rw [List.take_append_of_le_length (by rw [h _ (List.getElem_mem hi)]; exact Nat.le_refl _), List.take_of_length_le (by rw [h _ (List.getElem_mem hi)]; exact Nat.le_refl _)]
  simp [List.getD_eq_getElem?_getD, List.getElem?_eq_getElem hi]

end

section
variable {G : Gh} {σ : Store} {w : World}
/-- A slice that is read, nil or not. -/
theorem RelV.sl_mem {xs : List DV} {v : Value} (h : RelV G σ w (.sl xs) v) : ∃ A c st, v = .slice A xs.length c ∧ xs.length ≤ c ∧ (∀ x ∈ xs, x.cells.length = st) ∧
    (xs = [] ∨ ∃ b o, A = some ⟨b, o, none⟩ ∧ G.own b = .imm ∧ MemAt G σ w b o (flat xs)) := by
  cases h with
  | sl xs A n c st b o vs hn hc hA hst hm hr =>
    subst hn
    refine ⟨A, c, st, rfl, hc, hst, ?_⟩
    rcases hA with h | ⟨h, hi⟩
    · exact .inl h
    · exact .inr ⟨b, o, h, hi, MemAt.of_fun hm hr⟩
theorem RelV.slt_mem {xs : List DV} {v : Value} (h : RelV G σ w (.slt xs) v) : ∃ A st, v = .slice A xs.length xs.length ∧ (∀ x ∈ xs, x.cells.length = st) ∧
    (xs = [] ∨ ∃ b o, A = some ⟨b, o, none⟩ ∧ G.own b = .imm ∧ MemAt G σ w b o (flat xs)) := by
  cases h with
  | slt xs A n st b o vs hn hA hst hm hr =>
    subst hn
    refine ⟨A, st, rfl, hst, ?_⟩
    rcases hA with h | ⟨h, hi⟩
    · exact .inl h
    · exact .inr ⟨b, o, h, hi, MemAt.of_fun hm hr⟩
theorem RelV.sl_mk {xs : List DV} {A : Option Addr} {c st : Nat} (hc : xs.length ≤ c) (hst : ∀ x ∈ xs, x.cells.length = st)
    (h : xs = [] ∨ ∃ b o, A = some ⟨b, o, none⟩ ∧ G.own b = .imm ∧ MemAt G σ w b o (flat xs)) : RelV G σ w (.sl xs) (.slice A xs.length c) := by
  rcases h with rfl | ⟨b, o, rfl, hi, hm⟩
  · exact .sl [] A _ c 0 0 0 (fun _ => Go.undef) rfl hc (.inl rfl) (by simp) (by simp [flat]) (by simp [flat])
  · obtain ⟨vs, h1, h2⟩ := hm.to_fun
    exact .sl xs _ _ c st b o vs rfl hc (.inr ⟨rfl, hi⟩) hst h1 h2
theorem RelV.slt_mk {xs : List DV} {A : Option Addr} {st : Nat} (hst : ∀ x ∈ xs, x.cells.length = st)
    (h : xs = [] ∨ ∃ b o, A = some ⟨b, o, none⟩ ∧ G.own b = .imm ∧ MemAt G σ w b o (flat xs)) : RelV G σ w (.slt xs) (.slice A xs.length xs.length) := by
  rcases h with rfl | ⟨b, o, rfl, hi, hm⟩
  · exact .slt [] A _ 0 0 0 (fun _ => Go.undef) rfl (.inl rfl) (by simp) (by simp [flat]) (by simp [flat])
  · obtain ⟨vs, h1, h2⟩ := hm.to_fun
    exact .slt xs _ _ st b o vs rfl (.inr ⟨rfl, hi⟩) hst h1 h2
theorem RelV.sl_of_slt {xs : List DV} {v : Value} (h : RelV G σ w (.slt xs) v) : RelV G σ w (.sl xs) v := by
  obtain ⟨A, st, rfl, hst, hm⟩ := h.slt_mem
  exact RelV.sl_mk (Nat.le_refl _) hst hm
theorem RelV.cp_mk {cs : List DV} {b o : Nat} (hi : G.own b = .imm) (hm : MemAt G σ w b o cs) : RelV G σ w (.cp cs) (.pointer (some ⟨b, o, none⟩)) := by
  obtain ⟨vs, h1, h2⟩ := hm.to_fun
  exact .cp cs b o vs hi h1 h2
theorem RelV.cp_mem {cs : List DV} {v : Value} (h : RelV G σ w (.cp cs) v) : ∃ b o, v = .pointer (some ⟨b, o, none⟩) ∧ G.own b = .imm ∧ MemAt G σ w b o cs := by
  cases h with
  | cp cs b o vs him hm hr => exact ⟨b, o, rfl, him, MemAt.of_fun hm hr⟩
end

section
variable {P : Program} {T : TypeId → TI} {G : Gh} {σ : Store} (w : World)

theorem getD_drop_cells {cs : List UInt8} {n : Nat} (h : n < cs.length) : (⟨cs.toArray⟩ : ByteArray)[n]? = some (cs.getD n 0) := by
  have hs : n < (⟨cs.toArray⟩ : ByteArray).size := by simpa [ByteArray.size] using h
  rw [getElem?_pos (⟨cs.toArray⟩ : ByteArray) n hs]
  congr 1
  show cs.toArray[n] = _
  simp [List.getD_eq_getElem?_getD, List.getElem?_eq_getElem h]

theorem indexD_sound (hT : TOK P T) {t : TypeId} {x i : DV} {vx vi : Value} {C : Prop} {d : DV} (hx : RelV G σ w x vx) (hi : RelV G σ w i vi)
    (h : indexD T t x i = some (C, d)) (hc : C) : VRun P G σ w (Instr.index t vx vi) d := by
  unfold indexD at h
  split at h
  · rename_i s k n hy
    simp only [Option.some.injEq, Prod.mk.injEq] at h; obtain ⟨rfl, rfl⟩ := h
    cases hx; cases hi
    refine ⟨.int .u8 (s.getD n.toNat 0).toNat, ?_, .int _ _⟩
    simp only [Instr.index, asIntOf, Sem.run_bind, Sem.run_pure, Result.andThen_ok, TOK.und_str hT w hy]
    rw [if_pos hc.1, getD_drop_cells (by omega)]
    rfl
  · rename_i len e cs k n hy
    split at h
    · rename_i C' d' hp
      simp only [Option.some.injEq, Prod.mk.injEq] at h; obtain ⟨rfl, rfl⟩ := h
      obtain ⟨h0, h1, hc⟩ := hc
      cases hi
      cases hx with
      | agg cs vs hl hr =>
        have hne : (T e).ty ≠ .other := by
          unfold partD at hp
          split at hp <;> simp only [Option.some.injEq, Prod.mk.injEq] at hp <;> obtain ⟨rfl, _⟩ := hp <;> exact hc.1
        obtain ⟨v, hv, hd⟩ := part_sound w hT ⟨hl, hr⟩ hp hc
        refine ⟨v, ?_, hd⟩
        simp only [Instr.index, asIntOf, Sem.run_bind, Sem.run_pure, Result.andThen_ok, TOK.und_array hT w hy]
        rw [if_pos ⟨h0, h1⟩]
        simp [TOK.size hT w hne, hv]
    · simp at h
  · simp at h

theorem indexAddrD_sound (hT : TOK P T) {w0 : World} (hS : StoreRel w0 G σ w) {t : TypeId} {x i : DV} {vx vi : Value} {C : Prop} {d : DV} (hx : RelV G σ w x vx) (hi : RelV G σ w i vi)
    (h : indexAddrD T σ t x i = some (C, d)) (hc : C) : VRun P G σ w (Instr.indexAt t vx vi) d := by
  have key : ∀ (e : TypeId) (xs : List DV) (A : Option Addr) (c st : Nat) (k : IntKind) (n : Int), (T t).ty = .slice e → 0 ≤ n → n < xs.length → (T e).ty ≠ .other →
      (xs.getD n.toNat .undef).cells.length = (T e).size → (∀ x ∈ xs, x.cells.length = st) → (xs = [] ∨ ∃ b o, A = some ⟨b, o, none⟩ ∧ G.own b = .imm ∧ MemAt G σ w b o (flat xs)) →
      VRun P G σ w (Instr.indexAt t (.slice A xs.length c) (.int k n)) (.cp (xs.getD n.toNat .undef).cells) := by
    intro e xs A c st k n hy h0 h1 hne hsz hst hm
    rcases hm with rfl | ⟨b, o, rfl, him, hm⟩
    · simp at h1; omega
    · have hlt : n.toNat < xs.length := by omega
      have hst' : st = (T e).size := by
        rw [← hsz, List.getD_eq_getElem?_getD, List.getElem?_eq_getElem hlt]
        exact (hst _ (List.getElem_mem hlt)).symm
      subst hst'
      refine ⟨.pointer (some ⟨b, o + n.toNat * (T e).size, none⟩), ?_, RelV.cp_mk him ?_⟩
      · simp only [Instr.indexAt, asIntOf, Sem.run_bind, Sem.run_pure, Result.andThen_ok, TOK.und_slice hT w hy, Sem.run_ite]
        rw [if_pos ⟨h0, h1⟩]
        simp [TOK.size hT w hne, Addr_add]
      · rw [← flat_at hst n.toNat hlt]
        exact (hm.drop _).take _
  unfold indexAddrD at h
  split at h
  · rename_i e xs k n hy
    simp only [Option.some.injEq, Prod.mk.injEq] at h; obtain ⟨rfl, rfl⟩ := h
    cases hi
    obtain ⟨A, c, st, rfl, _, hst, hm⟩ := hx.sl_mem
    exact key e xs A c st k n hy hc.1 hc.2.1 hc.2.2.1 hc.2.2.2 hst hm
  · rename_i e xs k n hy
    simp only [Option.some.injEq, Prod.mk.injEq] at h; obtain ⟨rfl, rfl⟩ := h
    cases hi
    obtain ⟨A, st, rfl, hst, hm⟩ := hx.slt_mem
    exact key e xs A _ st k n hy hc.1 hc.2.1 hc.2.2.1 hc.2.2.2 hst hm
  · rename_i e id len k n hy
    split at h
    · rename_i R hR
      simp only [Option.some.injEq, Prod.mk.injEq] at h; obtain ⟨rfl, rfl⟩ := h
      obtain ⟨h0, h1, hl, hne, hst⟩ := hc
      cases hi
      cases hx with
      | row id len v hid hle hv =>
        have e1 := hv R hR hl
        subst e1
        obtain ⟨hpos, hall, A, m, c, hA, hm, hmc, hrow⟩ := hS.rows id R hR
        have hc0 : c ≠ 0 := by omega
        obtain ⟨g, arr, fr, rfl, hg, hh, _, hsz, hcell⟩ := hrow.resolve_left hc0
        rw [hA]
        refine ⟨.pointer (some ⟨g, n.toNat * (T e).size, none⟩), ?_, .rp _ _ _ _ _ hid hle (fun R' hR' hl' => ?_)⟩
        · simp only [Instr.indexAt, asIntOf, Sem.run_bind, Sem.run_pure, Result.andThen_ok, TOK.und_slice hT w hy, Sem.run_ite]
          rw [if_pos ⟨h0, by omega⟩]
          simp [TOK.size hT w hne, Addr_add]
        · rw [hR] at hR'; injection hR' with hR'; injection hR' with hR'; subst hR'
          exact ⟨g, m, c, hA, by rw [hst]; rfl⟩
    · simp at h
  · rename_i len e b off k n hy
    simp only [Option.some.injEq, Prod.mk.injEq] at h; obtain ⟨rfl, rfl⟩ := h
    obtain ⟨h0, h1, hne⟩ := hc
    cases hi
    cases hx with
    | ptr b off hb =>
      refine ⟨_, ?_, .ptr _ _ hb⟩
      simp only [Instr.indexAt, asIntOf, Sem.run_bind, Sem.run_pure, Result.andThen_ok, TOK.und_array hT w hy, Instr.sureAddr, Sem.run_ite]
      rw [if_pos ⟨h0, h1⟩]
      simp [TOK.size hT w hne, Addr_add]
  · rename_i len e cs k n hy
    simp only [Option.some.injEq, Prod.mk.injEq] at h; obtain ⟨rfl, rfl⟩ := h
    obtain ⟨h0, h1, hne⟩ := hc
    cases hi
    obtain ⟨b, o, rfl, him, hm⟩ := hx.cp_mem
    refine ⟨.pointer (some ⟨b, o + n.toNat * (T e).size, none⟩), ?_, RelV.cp_mk him (hm.drop _)⟩
    simp only [Instr.indexAt, asIntOf, Sem.run_bind, Sem.run_pure, Result.andThen_ok, TOK.und_array hT w hy, Instr.sureAddr, Sem.run_ite]
    rw [if_pos ⟨h0, h1⟩]
    simp [TOK.size hT w hne, Addr_add]
  · simp at h

theorem box_mem {w0 : World} (hS : StoreRel w0 G σ w) {b : Nat} {B : Box} (h : σ.boxes[b]? = some (some B)) : MemAt G σ w (G.boxB b) 0 B.cs := by
  obtain ⟨ho, arr, hh, hr⟩ := hS.boxes b B h
  refine ⟨arr.toList, hr, fun j v hv => ?_⟩
  rw [Nat.zero_add, cell_of_row w _ j arr _ _ hh]
  simpa using hv

theorem row_mem {w0 : World} (hS : StoreRel w0 G σ w) {id : Nat} {R : Row} (h : σ.rows[id]? = some (some R)) :
    ∃ A c, G.rowV id = .slice A R.xs.length c ∧ (R.xs = [] ∨ ∃ g, A = some ⟨g, 0, none⟩ ∧ MemAt G σ w g 0 (flat R.xs)) := by
  obtain ⟨hpos, hall, A, m, c, hA, rfl, hmc, hrow⟩ := hS.rows id R h
  refine ⟨A, c, hA, ?_⟩
  rcases hrow with rfl | ⟨g, arr, fr, rfl, hg, hh, _, hsz, hcell⟩
  · exact .inl (List.eq_nil_of_length_eq_zero (by omega))
  · refine .inr ⟨g, rfl, ?_⟩
    have hl := flat_len hall
    have hle : (flat R.xs).length ≤ arr.size := by rw [hl, hsz]; exact Nat.mul_le_mul_right _ hmc
    refine ⟨arr.toList.take (flat R.xs).length, ⟨by simp; omega, fun i d v hd hv => ?_⟩, fun j v hv => ?_⟩
    · have hi := (List.getElem?_eq_some_iff.1 hd).1
      rw [List.getElem?_take, if_pos hi] at hv
      exact hcell i d v hd (by simpa using hv)
    · rw [List.getElem?_take] at hv
      split at hv
      · rw [Nat.zero_add, cell_of_row w _ j arr _ _ hh]; simpa using hv
      · simp at hv

theorem loadD_sound (hT : TOK P T) {w0 : World} (hS : StoreRel w0 G σ w) {t : TypeId} {x : DV} {vx : Value} {C : Prop} {d : DV} (hx : RelV G σ w x vx)
    (h : loadD T σ t x = some (C, d)) (hc : C) : VRun P G σ w (Instr.loadAt t vx) d := by
  unfold loadD at h
  split at h
  · obtain ⟨b, o, rfl, him, hm⟩ := hx.cp_mem
    obtain ⟨v, hv, hd⟩ := loadVar_sound w hT hm h hc
    exact ⟨v, by simpa [Instr.loadAt, Instr.sureAddr] using hv, hd⟩
  · split at h
    · rename_i B hB
      cases hx with
      | ptr b off hb =>
        obtain ⟨v, hv, hd⟩ := loadVar_sound w hT (box_mem w hS hB) h hc
        exact ⟨v, by simpa [Instr.loadAt, Instr.sureAddr] using hv, hd⟩
    · simp at h
  · rename_i id0 len0 i0 off0
    split at h
    · rename_i R hR
      split at h
      · rename_i C' d' hp
        simp only [Option.some.injEq, Prod.mk.injEq] at h; obtain ⟨rfl, rfl⟩ := h
        obtain ⟨hl, hil, hc⟩ := hc
        cases hx with
        | rp _ _ _ _ v hid hle hv =>
          obtain ⟨g, n, c, e1, rfl⟩ := hv R hR hl
          obtain ⟨A, c', e2, hm⟩ := row_mem w hS hR
          have hne : R.xs ≠ [] := by intro he; rw [he] at hl; simp at hl; omega
          obtain ⟨g', rfl, hm1⟩ := hm.resolve_left hne
          rw [e1] at e2
          injection e2 with e2 _ _
          injection e2 with e2
          injection e2 with e2 _ _
          subst e2
          have hall := (hS.rows _ R hR).2.1
          have hm2 := (hm1.drop (i0 * R.st)).take R.st
          rw [flat_at hall i0 (by omega)] at hm2
          obtain ⟨u, hu, hd⟩ := loadVar_sound w hT hm2 hp hc
          exact ⟨u, by simpa [Instr.loadAt, Instr.sureAddr] using hu, hd⟩
      · simp at h
    · simp at h
  · simp at h
end
end Go.Val
