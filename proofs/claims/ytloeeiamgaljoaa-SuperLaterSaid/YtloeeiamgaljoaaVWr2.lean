/- The operations that write, one by one. -/
import Derived.Test.YtloeeiamgaljoaaVWr
namespace Go.Val
open Go.RowKit
set_option linter.unusedSimpArgs false
set_option linter.unusedVariables false

/-- What an operation does to the store, and what it answers. -/
def Effect (P : Program) (s : St) (o : Oper) (R : DV → Store → Prop) : Prop :=
  ∀ w0 G a w, RelS w0 G s a w → ∃ nv w' v r σ' G', (execOp a.eval o).run P w = .ok nv w' ∧ (nv = .value v ∨ (nv = .skip ∧ v = Go.undef)) ∧
    R r σ' ∧ StoreRel w0 G' σ' w' ∧ Ext G s.σ w G' σ' w' ∧ RelV G' σ' w' r v

theorem EvL_effect {P : Program} {s : St} {Q : Exit → St → Prop} {ops : Array Oper} {o : Oper} {rest : List Oper} {R : DV → Store → Prop} (hg : wantedD ops s.slots o = some true) (h : Effect P s o R)
    (k : ∀ r σ', R r σ' → EvL P ops rest (St.put ⟨s.slots, σ'⟩ o.dst r) Q) : EvL P ops (o :: rest) s Q := by
  intro w0 G0 σ0 W0 G a w hx hr
  rw [wpList]
  rw [if_pos (wanted_rel hr.2.1 hg)]
  obtain ⟨nv, w', v, r, σ', G', he, hv, hR, hS, hE, hd⟩ := h w0 G a w hr
  refine .inl ?_
  have key : wpList P ops (Post w0 G0 σ0 W0 Q) rest (a.put o.dst v) w' := by
    refine k r σ' hR w0 G0 σ0 W0 G' _ w' (by rw [put_σ]; exact hx.trans hE) ⟨by rw [put_defers]; exact hr.1, ?_, by rw [put_σ]; exact hS⟩
    rw [put_σ]
    exact RelL_put (hr.2.1.ext hE) hd o.dst
  rcases hv with rfl | ⟨rfl, rfl⟩
  · simp only [Oper.wp, he, Oper.upon]; exact key
  · simp only [Oper.wp, he, Oper.upon]; exact key

/-- A cell's value. -/
def Cell1 (σ : Store) : DV → Prop
  | .undef => False
  | .agg _ => False
  | .tup _ => False
  | .row id len => ∃ R, σ.rows[id]? = some (some R) ∧ R.xs.length = len
  | .rp id len _ _ => ∃ R, σ.rows[id]? = some (some R) ∧ R.xs.length = len
  | _ => True
def FlatD (σ : Store) (d : DV) : Prop := Solid σ d ∧ ∀ c ∈ d.cells, Cell1 σ c

def one (r : DV) (σ : Store) : DV → Store → Prop := fun r' σ' => r' = r ∧ σ' = σ

section
variable {P : Program} {T : TypeId → TI} {s : St}

theorem cell1_one {w0 : World} {G : Gh} {σ : Store} {w : World} (hS : StoreRel w0 G σ w) {d : DV} {v : Value} (h : RelV G σ w d v) (h1 : Cell1 σ d) : v.oneCell' = true := by
  cases d with
  | undef => exact h1.elim
  | agg _ => exact h1.elim
  | tup _ => exact h1.elim
  | row id len =>
    obtain ⟨R, hR, hl⟩ := h1
    cases h with
    | row _ _ v hid hle hv =>
      rw [hv R hR hl]
      obtain ⟨_, _, A, n, c, hA, _⟩ := hS.rows id R hR
      rw [hA]; rfl
  | rp id len i off =>
    obtain ⟨R, hR, hl⟩ := h1
    cases h with
    | rp _ _ _ _ v hid hle hv =>
      obtain ⟨g, n, c, _, rfl⟩ := hv R hR hl
      rfl
  | _ => cases h <;> rfl

theorem flatD_ones {w0 : World} {G : Gh} {σ : Store} {w : World} (hS : StoreRel w0 G σ w) {ds : List DV} {vs : List Value} (h : RelL G σ w ds vs) (h1 : ∀ c ∈ ds, Cell1 σ c) : ∀ v ∈ vs, v.oneCell' = true := by
  intro v hv
  obtain ⟨i, hi⟩ := List.mem_iff_getElem?.1 hv
  have hl : i < ds.length := by rw [← h.1]; exact (List.getElem?_eq_some_iff.1 hi).1
  exact cell1_one hS (h.2 i _ v (List.getElem?_eq_getElem hl) hi) (h1 _ (List.getElem_mem hl))

theorem ofVal0_cells (v : Value) : (ofVal0 v).cells = [ofVal0 v] := by unfold ofVal0; split <;> rfl
theorem ofVal_eq (v : Value) (h : ∀ cs, v ≠ .agg cs) : ofVal v = ofVal0 v := by
  cases v with
  | agg cs => exact absurd rfl (h cs)
  | slice a n c => cases a <;> cases n <;> cases c <;> rfl
  | pointer a => cases a <;> rfl
  | _ => rfl
theorem ofVal_cells {G : Gh} {σ : Store} {w : World} (v : Value) : RelL G σ w (ofVal v).cells v.cells.toList := by
  have key : (∀ cs, v ≠ .agg cs) → RelL G σ w (ofVal v).cells v.cells.toList := by
    intro h
    rw [ofVal_eq v h, ofVal0_cells]
    have e : v.cells = #[v] := by cases v <;> first | rfl | exact absurd rfl (h _)
    rw [e]
    exact .cons (ofVal0_rel w v) .nil
  cases v with
  | agg cs => exact (ofVal_rel (G := G) (σ := σ) w (.agg cs)).cells (by simp [ofVal]) (by simp [ofVal]) (by simp [ofVal])
  | _ => exact key (by simp)

theorem Effect.box {o : Oper} {e : TypeId} {x : Operand} (ho : o.op = .box e x) (hs : Solid s.σ (get s.slots x)) :
    Effect P s o (one (.ptr s.σ.boxes.length 0) { s.σ with boxes := s.σ.boxes ++ [some ⟨e, (get s.slots x).cells⟩] }) := by
  intro w0 G a w hr
  have hc := solid_cells w hr.2.2 (get_rel w hr.2.1 x) hs
  obtain ⟨G', h1, h2, h3⟩ := hr.2.2.box hc e
  refine ⟨.value (.pointer (some ⟨w.heap.size, 0, none⟩)), _, _, _, _, G', ?_, .inl rfl, ⟨rfl, rfl⟩, h1, h2, ?_⟩
  · simp [execOp, ho, Instr.box, newVar, newRow]
  · rw [← h3]; exact .ptr _ _ (by simp)

theorem Effect.alloc (hT : TOK P T) {o : Oper} {e : TypeId} (ho : o.op = .alloc e) (hne : (T e).ty ≠ .other) :
    Effect P s o (one (.ptr s.σ.boxes.length 0) { s.σ with boxes := s.σ.boxes ++ [some ⟨e, (ofVal (T e).zero).cells⟩] }) := by
  intro w0 G a w hr
  obtain ⟨G', h1, h2, h3⟩ := hr.2.2.box (ofVal_cells (T e).zero) e
  refine ⟨.value (.pointer (some ⟨w.heap.size, 0, none⟩)), _, _, _, _, G', ?_, .inl rfl, ⟨rfl, rfl⟩, h1, h2, ?_⟩
  · simp [execOp, ho, Instr.alloc, newVar, newRow, TOK.zero hT w hne]
  · rw [← h3]; exact .ptr _ _ (by simp)

theorem Effect.store (hT : TOK P T) {o : Oper} {t : TypeId} {p x : Operand} (ho : o.op = .store t p x) {b off : Nat} (hp : get s.slots p = .ptr b off) {B : Box} (hB : s.σ.boxes[b]? = some (some B))
    (hne : (T t).ty ≠ .other) (hf : FlatD s.σ (get s.slots x)) (hl : (get s.slots x).cells.length = (T t).size) (hoff : off + (T t).size ≤ B.cs.length) :
    Effect P s o (one .undef { s.σ with boxes := s.σ.boxes.set b (some ⟨B.ty, over B.cs off (get s.slots x).cells⟩) }) := by
  intro w0 G a w hr
  have hx := get_rel w hr.2.1 x
  have hc := solid_cells w hr.2.2 hx hf.1
  have hpv := get_rel w hr.2.1 p
  rw [hp] at hpv
  generalize hpe : a.eval p = vp at hpv
  cases hpv with
  | ptr _ _ hb =>
    obtain ⟨_, arr, hh, hrel⟩ := hr.2.2.boxes b B hB
    have hcl : (a.eval x).cells.toList.length = (T t).size := by rw [hc.1, hl]
    have hal : arr.size = B.cs.length := by rw [← hrel.1, Array.length_toList]
    obtain ⟨w', e1, e2, e3⟩ := run_storeCells_blk P (G.boxB b) off B.ty (0, 0) (a.eval x).cells.toList 0 arr w hh (by rw [hcl, hal]; omega) (fun k _ h => by simp at h) (flatD_ones hr.2.2 hc hf.2)
    rw [Nat.add_zero] at e3
    obtain ⟨h1, h2⟩ := hr.2.2.box_set hB e2 e3 (cs := over B.cs off (get s.slots x).cells) (by simpa using hrel.over w hc off)
    refine ⟨.skip, w', Go.undef, .undef, _, G, ?_, .inr ⟨rfl, rfl⟩, ⟨rfl, rfl⟩, h1, h2, .undef _⟩
    simp only [execOp, ho, hpe, Instr.storeAt, Instr.sureAddr, Sem.run_bind, Sem.run_pure, Result.andThen_ok, storeVar, TOK.size hT w hne]
    rw [if_neg (by rw [← Array.length_toList, hcl]; simp)]
    simp [e1]

/-- An element written over. -/
def DV.over (x : DV) (off : Nat) (cs : List DV) : DV :=
  match x with
  | .agg ds => .agg (Val.over ds off cs)
  | _ => cs.headD .undef

theorem over_len {α : Type} (cs ds : List α) (off : Nat) (h : off + ds.length ≤ cs.length) : (Val.over cs off ds).length = cs.length := by
  simp [Val.over]; omega

theorem over_cells {x : DV} {off : Nat} {cs : List DV} (h : off + cs.length ≤ x.cells.length) (h1 : 0 < cs.length) (hs : ∀ c ∈ cs, c.cells = [c]) : (x.over off cs).cells = Val.over x.cells off cs := by
  have key : (∀ ds, x ≠ .agg ds) → (x.over off cs).cells = Val.over x.cells off cs := by
    intro hn
    have e1 : x.cells = [x] := by cases x <;> first | rfl | exact absurd rfl (hn _)
    rw [e1] at h ⊢
    simp at h
    have h0 : off = 0 := by omega
    subst h0
    match cs, h1, hs with
    | [c], _, hs =>
      have : x.over 0 [c] = c := by cases x <;> first | rfl | exact absurd rfl (hn _)
      rw [this, hs c (by simp)]
      rfl
    | c :: d :: cs, _, _ => simp at h
  cases x with
  | agg ds => rfl
  | _ => exact key (by simp)

theorem flat_set {xs : List DV} {st : Nat} (h : ∀ x ∈ xs, x.cells.length = st) {i : Nat} (hi : i < xs.length) {y : DV} (hy : y.cells.length = st) : flat (xs.set i y) = Val.over (flat xs) (i * st) y.cells := by
  have e : xs.set i y = xs.take i ++ [y] ++ xs.drop (i + 1) := by
    rw [List.set_eq_take_append_cons_drop, if_pos hi]
    simp
  rw [e, flat_append, flat_append]
  unfold Val.over
  rw [← flat_take h, hy, show i * st + st = (i + 1) * st by rw [Nat.succ_mul], ← flat_drop h]
  simp [flat]

theorem over_over {α : Type} (cs ds es : List α) (i off : Nat) (st : Nat) (h1 : i + st ≤ cs.length) (h2 : off + es.length ≤ st) (hd : (cs.drop i).take st = ds) :
    Val.over cs i (Val.over ds off es) = Val.over cs (i + off) es := by
  have hdl : ds.length = st := by rw [← hd]; simp; omega
  have hol : (Val.over ds off es).length = st := by rw [over_len _ _ _ (by omega), hdl]
  apply List.ext_getElem?
  intro k
  unfold Val.over at *
  rw [hol]
  by_cases c1 : k < i
  · simp only [List.append_assoc]
    rw [List.getElem?_append_left (by simp; omega), List.getElem?_append_left (by simp; omega)]
    simp [List.getElem?_take, c1, show k < i + off by omega]
  · by_cases c2 : k < i + st
    · rw [List.getElem?_append_left (by simp [hdl]; omega), List.getElem?_append_right (by simp; omega)]
      have hm : min i cs.length = i := by omega
      simp only [List.length_take, hm]
      by_cases c3 : k < i + off
      · rw [List.append_assoc, List.getElem?_append_left (by simp [hdl]; omega), List.append_assoc, List.getElem?_append_left (by simp; omega)]
        rw [← hd]
        simp [List.getElem?_take, List.getElem?_drop, show k - i < off by omega, show k - i < st by omega, c3, show i + (k - i) = k by omega]
      · by_cases c4 : k < i + off + es.length
        · rw [List.append_assoc, List.getElem?_append_right (by simp [hdl]; omega), List.getElem?_append_left (by simp [hdl]; omega)]
          rw [List.append_assoc, List.getElem?_append_right (by simp; omega), List.getElem?_append_left (by simp; omega)]
          simp only [List.length_take, hdl]
          congr 1
          omega
        · rw [List.getElem?_append_right (by simp [hdl]; omega), List.getElem?_append_right (by simp; omega)]
          simp only [List.length_append, List.length_take, hdl, List.getElem?_drop]
          rw [← hd]
          simp only [List.getElem?_take, List.getElem?_drop]
          rw [if_pos (by omega)]
          congr 1
          omega
    · rw [List.getElem?_append_right (by simp [hdl]; omega), List.getElem?_append_right (by simp; omega)]
      simp only [List.length_append, List.length_take, hdl, List.getElem?_drop, List.length_drop]
      congr 1
      omega

theorem flat_over {xs : List DV} {st : Nat} (h : ∀ x ∈ xs, x.cells.length = st) {i : Nat} (hi : i < xs.length) {off : Nat} {cs : List DV} (hoff : off + cs.length ≤ st) (h1 : 0 < cs.length) (hs : ∀ c ∈ cs, c.cells = [c]) :
    flat (xs.set i ((xs.getD i .undef).over off cs)) = Val.over (flat xs) (i * st + off) cs := by
  have hx : (xs.getD i .undef).cells.length = st := by rw [List.getD_eq_getElem?_getD, List.getElem?_eq_getElem hi]; exact h _ (List.getElem_mem hi)
  have hoc := over_cells (x := xs.getD i .undef) (off := off) (cs := cs) (by omega) h1 hs
  rw [flat_set h hi (by rw [hoc, over_len _ _ _ (by omega), hx]), hoc]
  exact over_over _ _ _ _ _ st (by rw [flat_len h, ← Nat.succ_mul]; exact Nat.mul_le_mul_right _ hi) hoff (flat_at h i hi)
end
end Go.Val
