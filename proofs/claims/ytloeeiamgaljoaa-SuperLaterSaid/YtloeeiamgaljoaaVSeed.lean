/- A slice without room as a new row without elements. -/
import Derived.Test.YtloeeiamgaljoaaVDraw2
import Derived.Lib.SlBytesConst
namespace Go.Val
open Go.RowKit
set_option linter.unusedSimpArgs false
set_option linter.unusedVariables false

def Store.addRow (σ : Store) (R : Row) : Store := { σ with rows := σ.rows ++ [some R] }

section
variable {P : Program} {T : TypeId → TI} {Q : Exit → St → Prop} {slots slots' : List DV} {σ : Store}

theorem StoreRel.seed {w0 : World} {G : Gh} {w : World} (hS : StoreRel w0 G σ w) {A : Option Addr} (e : TypeId) {st : Nat} (h0 : 0 < st) :
    ∃ G', StoreRel w0 G' (σ.addRow ⟨[], e, st⟩) w ∧ Ext G σ w G' (σ.addRow ⟨[], e, st⟩) w ∧ RelV G' (σ.addRow ⟨[], e, st⟩) w (.row σ.rows.length 0) (.slice A 0 0) := by
  let G' : Gh := { G with rowV := updN G.rowV σ.rows.length (.slice A 0 0) }
  have hx : Ext G σ w G' (σ.addRow ⟨[], e, st⟩) w := by
    refine ⟨fun k hk => ⟨hk, rfl⟩, by simp [Store.addRow], Nat.le_refl _, Nat.le_refl _, fun i R' hi hR' => ?_, fun _ _ => rfl, fun _ _ => rfl⟩
    simp only [Store.addRow] at hR'
    rw [List.getElem?_append_left hi] at hR'
    exact ⟨R', hR', rfl, Nat.le_refl _, fun _ => by show updN _ _ _ _ = _; rw [updN_ne _ _ (by omega)]⟩
  refine ⟨G', ⟨hS.below, hS.lt, hS.trk, fun id R hR => ?_, fun id B hB => (hS.boxes id B hB).keep hx rfl (fun _ hk => ⟨hk, rfl⟩), fun id M hM => (hS.maps id M hM).keep hx rfl (fun _ hk => ⟨hk, rfl⟩)⟩, hx, ?_⟩
  · simp only [Store.addRow] at hR
    rcases Nat.lt_trichotomy id σ.rows.length with hlt | rfl | hgt
    · rw [List.getElem?_append_left hlt] at hR
      exact (hS.rows id R hR).keep hx (by show updN _ _ _ _ = _; rw [updN_ne _ _ (by omega)]) (fun _ hk => ⟨hk, rfl⟩)
    · simp at hR
      subst hR
      exact ⟨h0, by simp, A, 0, 0, by show updN _ _ _ _ = _; rw [updN_same], rfl, Nat.le_refl _, .inl rfl⟩
    · rw [List.getElem?_eq_none (by simp; omega)] at hR
      simp at hR
  · refine .row _ _ _ (by simp [Store.addRow]) (fun R hR => ?_) (fun R hR _ => by show _ = updN _ _ _ _; rw [updN_same])
    simp [Store.addRow] at hR
    subst hR
    simp

theorem RelS.seed {w0 : World} {G : Gh} {a : Act} {w : World} (hr : RelS w0 G ⟨slots, σ⟩ a w) {t : Tmp} (h : slots[t]? = some (.slt [])) (e : TypeId) {st : Nat} (h0 : 0 < st) :
    ∃ G', RelS w0 G' ⟨slots.set t (.row σ.rows.length 0), σ.addRow ⟨[], e, st⟩⟩ a w ∧ Ext G σ w G' (σ.addRow ⟨[], e, st⟩) w := by
  obtain ⟨v, hv, hd⟩ := hr.2.1.get h
  obtain ⟨A, rfl⟩ : ∃ A, v = .slice A 0 0 := by
    cases hd with
    | slt _ A n st b o vs hn _ _ _ _ => subst hn; exact ⟨A, rfl⟩
  obtain ⟨G', k1, k2, k3⟩ := hr.2.2.seed (A := A) e h0
  refine ⟨G', ⟨hr.1, ?_, k1⟩, k2⟩
  have := (hr.2.1.ext k2)
  refine ⟨by simpa using this.1, fun i c u hc hu => ?_⟩
  by_cases e : t = i
  · subst e
    have ht := (List.getElem?_eq_some_iff.1 h).1
    rw [List.getElem?_set_self ht] at hc
    injection hc with hc
    rw [hv] at hu
    injection hu with hu
    subst hc; subst hu
    exact k3
  · rw [List.getElem?_set_ne e] at hc
    exact this.2 i c u hc hu

theorem Ev_seed {c : Code} (t : Tmp) (e : TypeId) (st : Nat) (h : slots[t]? = some (.slt [])) (h0 : 0 < st) (hs : slots.set t (.row σ.rows.length 0) = slots') (k : Ev P c ⟨slots', ⟨σ.rows ++ [some ⟨[], e, st⟩], σ.boxes, σ.maps⟩⟩ Q) : Ev P c ⟨slots, σ⟩ Q := by
  subst hs
  intro w0 G0 σ0 W0 G a w hx hr
  obtain ⟨G', k1, k2⟩ := hr.seed h e h0
  exact k w0 G0 σ0 W0 G' a w (hx.trans k2) k1
/-- A variable's empty slice becomes a row. -/
theorem StoreRel.seedB {w0 : World} {G : Gh} {w : World} (hS : StoreRel w0 G σ w) {b k : Nat} {ty : TypeId} {cs : List DV} (hB : σ.boxes[b]? = some (some ⟨ty, cs⟩)) (hk : cs[k]? = some (.slt [])) (e : TypeId) {st : Nat} (h0 : 0 < st) :
    ∃ G', StoreRel w0 G' ⟨σ.rows ++ [some ⟨[], e, st⟩], σ.boxes.set b (some ⟨ty, cs.set k (.row σ.rows.length 0)⟩), σ.maps⟩ w ∧ Ext G σ w G' ⟨σ.rows ++ [some ⟨[], e, st⟩], σ.boxes.set b (some ⟨ty, cs.set k (.row σ.rows.length 0)⟩), σ.maps⟩ w := by
  obtain ⟨hown, arr, hh, hrel⟩ := hS.boxes b _ hB
  obtain ⟨v, hv, hd⟩ := hrel.get hk
  obtain ⟨A, rfl⟩ : ∃ A, v = .slice A 0 0 := by
    cases hd with
    | slt _ A n st b o vs hn _ _ _ _ => subst hn; exact ⟨A, rfl⟩
  obtain ⟨G', k1, k2, k3⟩ := hS.seed (A := A) e h0
  have hx : Ext G' (σ.addRow ⟨[], e, st⟩) w G' ⟨σ.rows ++ [some ⟨[], e, st⟩], σ.boxes.set b (some ⟨ty, cs.set k (.row σ.rows.length 0)⟩), σ.maps⟩ w :=
    ⟨fun _ h => ⟨h, rfl⟩, Nat.le_refl _, by simp [Store.addRow], Nat.le_refl _, fun i R' hi hR' => ⟨R', hR', rfl, Nat.le_refl _, fun _ => rfl⟩, fun _ _ => rfl, fun _ _ => rfl⟩
  refine ⟨G', ⟨k1.below, k1.lt, k1.trk, fun id R hR => (k1.rows id R hR).keep hx rfl (fun _ hk => ⟨hk, rfl⟩), fun id B hB' => ?_, fun id M hM => (k1.maps id M hM).keep hx rfl (fun _ hk => ⟨hk, rfl⟩)⟩, k2.trans hx⟩
  by_cases hi : b = id
  · subst hi
    have hlt := (List.getElem?_eq_some_iff.1 hB).1
    simp only at hB'
    rw [List.getElem?_set_self hlt] at hB'
    simp only [Option.some.injEq] at hB'
    subst hB'
    obtain ⟨a1, arr', a2, a3⟩ := k1.boxes b ⟨ty, cs⟩ hB
    have hbx : G'.boxB b = G.boxB b := k2.boxB b hlt
    have he : arr' = arr := by rw [hbx, hh] at a2; simp only [Option.some.injEq, Obj.cells.injEq] at a2; exact a2.1.symm
    subst he
    refine ⟨a1, arr', a2, ?_⟩
    have h3 := (a3.ext hx)
    refine ⟨by simpa using h3.1, fun i c u hc hu => ?_⟩
    by_cases hik : k = i
    · subst hik
      have hkl := (List.getElem?_eq_some_iff.1 hk).1
      simp only at hc
      rw [List.getElem?_set_self hkl] at hc
      injection hc with hc
      rw [hv] at hu
      injection hu with hu
      subst hc; subst hu
      exact k3.ext hx
    · simp only at hc
      rw [List.getElem?_set_ne hik] at hc
      exact h3.2 i c u hc hu
  · simp only at hB'
    rw [List.getElem?_set_ne hi] at hB'
    exact (k1.boxes id B hB').keep hx rfl (fun _ hk => ⟨hk, rfl⟩)
theorem Ev_seedB {c : Code} (b k : Nat) (e : TypeId) (st : Nat) {ty : TypeId} {cs : List DV} {bx : List (Option Box)} {rw_ : List (Option Row)} (hB : σ.boxes[b]? = some (some ⟨ty, cs⟩)) (hk : cs[k]? = some (.slt [])) (h0 : 0 < st) (hb : σ.boxes.set b (some ⟨ty, cs.set k (.row σ.rows.length 0)⟩) = bx)
    (hr : σ.rows ++ [some ⟨[], e, st⟩] = rw_)
    (q : Ev P c ⟨slots, ⟨rw_, bx, σ.maps⟩⟩ Q) : Ev P c ⟨slots, σ⟩ Q := by
  subst hb; subst hr
  intro w0 G0 σ0 W0 G a w hx hr
  obtain ⟨G', k1, k2⟩ := hr.2.2.seedB hB hk e h0
  exact q w0 G0 σ0 W0 G' a w (hx.trans k2) ⟨hr.1, hr.2.1.ext k2, k1⟩
theorem EvD_seed {dsts : List (Option Tmp)} {rest : List Oper} (t : Tmp) (e : TypeId) (st : Nat) (h : slots[t]? = some (.slt [])) (h0 : 0 < st) (hs : slots.set t (.row σ.rows.length 0) = slots') (k : EvD P dsts rest slots' ⟨σ.rows ++ [some ⟨[], e, st⟩], σ.boxes, σ.maps⟩ Q) : EvD P dsts rest slots σ Q := by
  subst hs
  intro ops ho w0 G0 σ0 W0 G a w hx hr
  obtain ⟨G', k1, k2⟩ := hr.seed h e h0
  exact k ops ho w0 G0 σ0 W0 G' a w (hx.trans k2) k1

/-! ### a variable, or a row, that is only read from now on; what lies elsewhere in memory is left -/
theorem StoreRel.fixS {w0 : World} {G : Gh} {w : World} (hS : StoreRel w0 G σ w) {b : Nat} {B : Box} (hB : σ.boxes[b]? = some (some B)) :
    ∃ G', StoreRel w0 G' ⟨σ.rows, σ.boxes.set b none, σ.maps⟩ w ∧ Ext G σ w G' ⟨σ.rows, σ.boxes.set b none, σ.maps⟩ w ∧ (∀ d v, RelV G σ w d v → RelV G' ⟨σ.rows, σ.boxes.set b none, σ.maps⟩ w (bfz b B.cs d) v) := by
  obtain ⟨G', h1, h2, h3⟩ := StoreRel.fix (s := ⟨[], σ⟩) hS hB
  have x : Ext G' (St.fix ⟨[], σ⟩ b B.cs).σ w G' ⟨σ.rows, σ.boxes.set b none, σ.maps⟩ w :=
    ⟨fun k hk => ⟨hk, rfl⟩, Nat.le_refl _, by simp [St.fix], Nat.le_refl _, fun i R' hi hR' => ⟨R', hR', rfl, Nat.le_refl _, fun _ => rfl⟩, fun _ _ => rfl, fun _ _ => rfl⟩
  refine ⟨G', ⟨h1.below, h1.lt, h1.trk, fun i R hR => (h1.rows i R hR).keep x rfl (fun _ hk => ⟨hk, rfl⟩), fun i B0 hB0 => ?_, fun i M hM => (h1.maps i M hM).keep x rfl (fun _ hk => ⟨hk, rfl⟩)⟩, h2.trans x, fun d v hd => (h3 d v hd).ext x⟩
  have hne : b ≠ i := by
    rintro rfl
    have hb := (List.getElem?_eq_some_iff.1 hB).1
    simp only at hB0
    rw [List.getElem?_set_self hb] at hB0
    simp at hB0
  simp only at hB0
  have hB1 := hB0
  rw [List.getElem?_set_ne hne] at hB1
  have hfx : (St.fix ⟨[], σ⟩ b B.cs).σ.boxes[i]? = some (some { B0 with cs := B0.cs.map (bfz b B.cs) }) := by
    simp only [St.fix, List.getElem?_map, hB0, Option.map_some]
  obtain ⟨k1, arr, k2, _⟩ := h1.boxes i _ hfx
  obtain ⟨_, arr', k3, k4⟩ := hS.boxes i B0 hB1
  rw [h2.boxB i (List.getElem?_eq_some_iff.1 hB1).1] at k1 k2
  refine ⟨by rw [(h2.trans x).boxB i (List.getElem?_eq_some_iff.1 hB1).1]; exact k1, arr', ?_, k4.ext (h2.trans x)⟩
  rw [(h2.trans x).boxB i (List.getElem?_eq_some_iff.1 hB1).1]
  exact k3

variable {σ' : Store}
theorem Ev_fixS {c : Code} (b : Nat) {B : Box} (hB : σ.boxes[b]? = some (some B)) (hs : slots.map (bfz b B.cs) = slots') (hσ : (⟨σ.rows, σ.boxes.set b none, σ.maps⟩ : Store) = σ') (k : Ev P c ⟨slots', σ'⟩ Q) : Ev P c ⟨slots, σ⟩ Q := by
  subst hs; subst hσ
  intro w0 G0 σ0 W0 G a w hx hr
  obtain ⟨G', h1, h2, h3⟩ := StoreRel.fixS hr.2.2 hB
  exact k w0 G0 σ0 W0 G' a w (hx.trans h2) ⟨hr.1, hr.2.1.map h3, h1⟩
theorem EvD_fixS {dsts : List (Option Tmp)} {rest : List Oper} (b : Nat) {B : Box} (hB : σ.boxes[b]? = some (some B)) (hs : slots.map (bfz b B.cs) = slots') (hσ : (⟨σ.rows, σ.boxes.set b none, σ.maps⟩ : Store) = σ') (k : EvD P dsts rest slots' σ' Q) : EvD P dsts rest slots σ Q := by
  subst hs; subst hσ
  intro ops ho w0 G0 σ0 W0 G a w hx hr
  obtain ⟨G', h1, h2, h3⟩ := StoreRel.fixS hr.2.2 hB
  exact k ops ho w0 G0 σ0 W0 G' a w (hx.trans h2) ⟨hr.1, hr.2.1.map h3, h1⟩
theorem Ev_frzS {c : Code} (id : Nat) {R : Row} (hR : σ.rows[id]? = some (some R)) (hs : slots.map (frz id R.xs) = slots') (hσ : (⟨σ.rows.set id none, σ.boxes, σ.maps⟩ : Store) = σ') (k : Ev P c ⟨slots', σ'⟩ Q) : Ev P c ⟨slots, σ⟩ Q := by
  subst hs; subst hσ
  intro w0 G0 σ0 W0 G a w hx hr
  obtain ⟨G', h1, h2, h3⟩ := StoreRel.frzS hr.2.2 hR
  exact k w0 G0 σ0 W0 G' a w (hx.trans h2) ⟨hr.1, hr.2.1.map h3, h1⟩
theorem EvD_frzS {dsts : List (Option Tmp)} {rest : List Oper} (id : Nat) {R : Row} (hR : σ.rows[id]? = some (some R)) (hs : slots.map (frz id R.xs) = slots') (hσ : (⟨σ.rows.set id none, σ.boxes, σ.maps⟩ : Store) = σ') (k : EvD P dsts rest slots' σ' Q) : EvD P dsts rest slots σ Q := by
  subst hs; subst hσ
  intro ops ho w0 G0 σ0 W0 G a w hx hr
  obtain ⟨G', h1, h2, h3⟩ := StoreRel.frzS hr.2.2 hR
  exact k ops ho w0 G0 σ0 W0 G' a w (hx.trans h2) ⟨hr.1, hr.2.1.map h3, h1⟩
/-- What names nothing keeps its words. -/
theorem frz_row (id len : Nat) (xs : List DV) (h : len = xs.length) : frz id xs (.row id len) = .sl xs := by simp [frz, h]

/-! ### append -/
variable {dsts : List (Option Tmp)} {l : List Oper} {f : List Bool} {E : Store → Prop} {K : List DV → Store → Prop} {dst : Option Tmp} {ty t t2 e : TypeId} {pos : String} {af : Array Edge} {g : Option (Nat × Bool)} {x y : Operand}
theorem DrD_append (hT : TOK P T) (hon : onD dsts slots g = some true) (hf : f.headD false = true)
    {id len : Nat} (hx : get slots x = .row id len) {R : Row} (hR : σ.rows[id]? = some (some R)) (hl : R.xs.length = len) (ht : (T t).ty = .slice e) (hne : (T e).ty ≠ .other) (he : R.e = e) (hs : R.st = (T e).size) (hzc : (T e).zero.cells.size = (T e).size) (hb : 0 < (T e).bytes)
    {C : Prop} {ys : List DV} (hy : srcD T σ t2 (get slots y) = some (C, ys)) (hc : C) (hst : ∀ y ∈ ys, y.cells.length = R.st) (h1 : ∀ c ∈ flat ys, Cell1 σ c) (hsz : (len + ys.length) * (T e).bytes ≤ 140737488355328) (hE : E σ)
    (hs' : putS slots dst (.row id (len + ys.length)) = slots') (hσ : (⟨σ.rows.set id (some { R with xs := R.xs ++ ys }), σ.boxes, σ.maps⟩ : Store) = σ') (k : DrD P E dsts l f.tail slots' σ' K) :
    DrD P E dsts (⟨dst, .call ⟨.builtin .append, #[x, y], #[t, t2]⟩, ty, pos, af, g⟩ :: l) f slots σ K := by
  subst hσ
  refine DrD_eff hon hf (d := .row id (len + ys.length)) (fun s1 hs1 => ?_) hE hs' k rfl
  have ex : get s1 x = .row id len := by rw [hs1 x (by simp [Op.operands, Call.operands]), hx]
  have ey : get s1 y = get slots y := hs1 y (by simp [Op.operands, Call.operands])
  exact Effect.append (s := ⟨s1, σ⟩) hT rfl rfl rfl rfl ex hR hl ht hne he hs hzc hb (by rw [ey]; exact hy) hc hst h1 hsz
theorem EvD_append (hT : TOK P T) {rest : List Oper} {Q : Exit → St → Prop}
    {id len : Nat} (hx : get slots x = .row id len) {R : Row} (hR : σ.rows[id]? = some (some R)) (hl : R.xs.length = len) (ht : (T t).ty = .slice e) (hne : (T e).ty ≠ .other) (he : R.e = e) (hs : R.st = (T e).size) (hzc : (T e).zero.cells.size = (T e).size) (hb : 0 < (T e).bytes)
    {C : Prop} {ys : List DV} (hy : srcD T σ t2 (get slots y) = some (C, ys)) (hc : C) (hst : ∀ y ∈ ys, y.cells.length = R.st) (h1 : ∀ c ∈ flat ys, Cell1 σ c) (hsz : (len + ys.length) * (T e).bytes ≤ 140737488355328)
    (hs' : putS slots dst (.row id (len + ys.length)) = slots') (hσ : (⟨σ.rows.set id (some { R with xs := R.xs ++ ys }), σ.boxes, σ.maps⟩ : Store) = σ') (k : EvD P dsts rest slots' σ' Q) :
    EvD P dsts (⟨dst, .call ⟨.builtin .append, #[x, y], #[t, t2]⟩, ty, pos, af, none⟩ :: rest) slots σ Q := by
  subst hσ; subst hs'
  refine EvD_eff (Effect.append (s := ⟨slots, σ⟩) hT rfl rfl rfl rfl hx hR hl ht hne he hs hzc hb hy hc hst h1 hsz) ?_
  rintro r σ'' ⟨rfl, rfl⟩
  rw [putS_eq]
  exact k
theorem EvD_appendNew (hT : TOK P T) {rest : List Oper} {Q : Exit → St → Prop}
    {xs : List DV} (hx : get slots x = .slt xs) (ht : (T t).ty = .slice e) (hne : (T e).ty ≠ .other) (hs0 : 0 < (T e).size) (hzc : (T e).zero.cells.size = (T e).size) (hb : 0 < (T e).bytes)
    {C : Prop} {ys : List DV} (hy : srcD T σ t2 (get slots y) = some (C, ys)) (hc : C) (hxs : ∀ x ∈ xs, x.cells.length = (T e).size) (hst : ∀ y ∈ ys, y.cells.length = (T e).size) (hnew : xs = [] ∨ ys ≠ []) (hsz : (xs.length + ys.length) * (T e).bytes ≤ 140737488355328)
    (hs' : putS slots dst (.row σ.rows.length (xs.length + ys.length)) = slots') (hσ : (⟨σ.rows ++ [some ⟨xs ++ ys, e, (T e).size⟩], σ.boxes, σ.maps⟩ : Store) = σ') (k : EvD P dsts rest slots' σ' Q) :
    EvD P dsts (⟨dst, .call ⟨.builtin .append, #[x, y], #[t, t2]⟩, ty, pos, af, none⟩ :: rest) slots σ Q := by
  subst hσ; subst hs'
  refine EvD_eff (Effect.appendNew (s := ⟨slots, σ⟩) hT rfl rfl rfl rfl hx ht hne hs0 hzc hb hy hc hxs hst hnew hsz) ?_
  rintro r σ'' ⟨rfl, rfl⟩
  rw [putS_eq]
  exact k

/-- Octets compared as arrays. -/
theorem eqAllD_bytes {T : TypeId → TI} {e : TypeId} {ez : TI} (he : T e = ez) (h1 : ez.ty = .int .u8) (h2 : ez.size = 1) (d : Nat) (l m : List UInt8) :
    ∀ (is : List Nat), (∀ i ∈ is, i < l.length) → (∀ i ∈ is, i < m.length) → ∃ C : Prop, C ∧ eqAllD T (eqD T (d + 1)) (is.map fun i => (e, i * (T e).size)) (bytes l) (bytes m) = some (C, is.all fun i => l[i]? == m[i]?) := by
  intro is
  induction is with
  | nil => intro _ _; exact ⟨True, trivial, rfl⟩
  | cons i is ih =>
    intro hl hm
    obtain ⟨C, hC, hq⟩ := ih (fun i hi => hl i (by simp [hi])) (fun i hi => hm i (by simp [hi]))
    have hil := hl i (by simp)
    have him := hm i (by simp)
    have p : ∀ (x : List UInt8) (hx : i < x.length), partD T e (bytes x) (i * (T e).size) = some ((T e).ty ≠ .other ∧ i * (T e).size < (bytes x).length, .int .u8 x[i].toNat) := by
      intro x hx
      rw [partD, he, TI.isAgg, h1, h2, Nat.mul_one]
      simp only [Bool.false_eq_true, if_false]
      rw [bytes_get (List.getElem?_eq_getElem hx)]
    have hq1 : eqD T (d + 1) e (.int .u8 l[i].toNat) (.int .u8 m[i].toNat) = some (IntKind.u8 = IntKind.u8, decide ((l[i].toNat : Int) = (m[i].toNat : Int))) := by
      simp only [eqD, he, h1]
    refine ⟨((T e).ty ≠ .other ∧ i * (T e).size < (bytes l).length) ∧ ((T e).ty ≠ .other ∧ i * (T e).size < (bytes m).length) ∧ (IntKind.u8 = IntKind.u8) ∧ C, ⟨⟨by rw [he, h1]; simp, by rw [he, h2, bytes_len]; omega⟩, ⟨by rw [he, h1]; simp, by rw [he, h2, bytes_len]; omega⟩, rfl, hC⟩, ?_⟩
    rw [List.map_cons, eqAllD]
    simp only [p l hil, p m him, hq1, hq, List.all_cons, List.getElem?_eq_getElem hil, List.getElem?_eq_getElem him]
    congr 2
    congr 1
    by_cases e : l[i] = m[i]
    · simp [e]
    · have : ¬ ((l[i].toNat : Int) = (m[i].toNat : Int)) := fun h => e (UInt8.toNat_inj.1 (by omega))
      simp [e, this]
theorem eqD_bytes {T : TypeId → TI} {t e : TypeId} {n : Nat} {tz ez : TI} (ht : T t = tz) (ht1 : tz.ty = .array n e) (he : T e = ez) (h1 : ez.ty = .int .u8) (h2 : ez.size = 1) (d : Nat) (l m : List UInt8) (hl : l.length = n) (hm : m.length = n) :
    ∃ C : Prop, C ∧ eqD T (d + 2) t (.agg (bytes l)) (.agg (bytes m)) = some (C, decide (l = m)) := by
  obtain ⟨C, hC, hq⟩ := eqAllD_bytes he h1 h2 d l m (List.range n) (by simp [hl]) (by simp [hm])
  refine ⟨(T e).ty ≠ .other ∧ C, ⟨by rw [he, h1]; simp, hC⟩, ?_⟩
  have e0 : eqD T (d + 2) t (.agg (bytes l)) (.agg (bytes m)) = some ((T e).ty ≠ .other ∧ C, (List.range n).all fun i => l[i]? == m[i]?) := by
    rw [show d + 2 = (d + 1) + 1 from rfl]
    unfold eqD
    rw [ht, ht1]
    simp only [hq]
  rw [e0]
  congr 2
  by_cases e : l = m
  · subst e; simp
  · simp only [e, decide_false]
    rw [Bool.eq_false_iff]
    intro hall
    rw [List.all_eq_true] at hall
    apply e
    apply List.ext_getElem?
    intro i
    by_cases hi : i < n
    · simpa using hall i (by simpa using hi)
    · rw [List.getElem?_eq_none (by omega), List.getElem?_eq_none (by omega)]

/-- '[]byte("abc")': a row written out, and marked. -/
theorem EvD_litConst (hT : TOK P T) {dsts : List (Option Tmp)} {rest : List Oper} {t1 t2 : Tmp} {t e : TypeId} {len : Nat} {parts : Array (Nat × Operand)} {ty ty2 : TypeId} {pos pos2 : String} {af af2 : Array Edge} {C : Prop} {xs : List DV}
    (ht : (T t).ty = .slice e) (he : (T e).ty = .int .u8) (h1 : t1 < slots.length) (h : newD T σ slots (.buildSlice t len parts) = some (C, .slt xs)) (hc : C) (hs : (slots.set t1 .undef).set t2 (.slt xs) = slots') (k : EvD P dsts rest slots' σ Q) :
    EvD P dsts (⟨some t1, .buildSlice t len parts, ty, pos, af, none⟩ :: ⟨some t2, .convert t t (.tmp t1), ty2, pos2, af2, none⟩ :: rest) slots σ Q := by
  subst hs
  intro ops ho w0 G0 σ0 W0 G a w hx hr
  unfold newD at h
  simp only [ht] at h
  split at h
  · rename_i C' cs hf
    simp only [Option.some.injEq, Prod.mk.injEq, DV.slt.injEq] at h
    obtain ⟨rfl, hxs⟩ := h
    obtain ⟨hne, hsz, hs0, hzc, hfl, hst, hc⟩ := hc
    rw [hxs] at hfl hst
    have hxl : xs.length = len := by rw [← hxs]; simp [groupsD]
    obtain ⟨rs, hrs, hrel⟩ := build_run hT ht hr hf hne hsz hzc hc
    have hta : t1 < a.tmps.size := by
      have h2 := hr.2.1.1
      simp only [Array.length_toList] at h2
      rw [h2]
      exact h1
    rw [wpList, if_pos (by rfl)]
    refine .inl ?_
    have r1 : (execOp a.eval ⟨some t1, .buildSlice t len parts, ty, pos, af, none⟩).run P w = .ok (.value (.slice (some ⟨w.heap.size, 0, none⟩) len len)) (w.alloc (.cells rs e)) := by
      simp only [execOp, Sem.run_bind, hrs, Result.andThen_ok]
      rfl
    simp only [Oper.wp, r1, Oper.upon]
    rw [wpList, if_pos (by rfl)]
    refine .inl ?_
    have ev : (a.put (some t1) (.slice (some ⟨w.heap.size, 0, none⟩) len len)).eval (.tmp t1) = .slice (some ⟨w.heap.size, 0, none⟩) len len := by
      simp [Act.put, Act.eval, hta]
    have r2 : (execOp (a.put (some t1) (.slice (some ⟨w.heap.size, 0, none⟩) len len)).eval ⟨some t2, .convert t t (.tmp t1), ty2, pos2, af2, none⟩).run P (w.alloc (.cells rs e)) = .ok (.value (.slice (some ⟨w.heap.size, 0, none⟩) len len)) (w.alloc (.cells rs e (rs.size, rs.size + 1))) := by
      simp only [execOp, ev, Sem.run_bind, Go.Lib.run_convert_bytes_const w t e rs len len (TOK.undP_slice hT ht) (TOK.undP_int hT he), Result.andThen_ok]
      rfl
    simp only [Oper.wp, r2, Oper.upon]
    obtain ⟨k1, k2⟩ := hr.2.2.newImm (.cells rs e (rs.size, rs.size + 1))
    refine k ops ho w0 G0 σ0 W0 _ _ _ (hx.trans k2) ⟨by simp only [put_defers]; exact hr.1, ?_, k1⟩
    have hv := RelV.slt_mk (A := some ⟨w.heap.size, 0, none⟩) (G := { G with own := updN G.own w.heap.size .imm }) (σ := σ) (w := w.alloc (.cells rs e (rs.size, rs.size + 1))) (xs := xs) hst
      (.inr ⟨w.heap.size, 0, rfl, by simp, MemAt.alloc w (fun i d hd => by
        rw [hfl] at hd
        have hi : i < rs.size := by have := (List.getElem?_eq_some_iff.1 hd).1; rw [← hrel.1] at this; simpa using this
        exact ⟨rs[i], Array.getElem?_eq_getElem hi, (hrel.2 i d _ hd (by simp)).ext k2⟩)⟩)
    rw [hxl] at hv
    exact RelL_put (RelL_put (hr.2.1.ext k2) (.undef _) (some t1)) hv (some t2)
  · simp at h

/-- Where ways join. -/
def CutQ (M : List DV) (τ : Store) : Exit → St → Prop
  | .normal, s => LeL s.slots M ∧ s.σ = τ
  | _, _ => False
theorem Ev_cut {x y : Code} (M : List DV) (τ : Store) (h : Ev P x ⟨slots, σ⟩ (CutQ M τ)) (k : Ev P y ⟨M, τ⟩ Q) : Ev P (.seq x y) ⟨slots, σ⟩ Q := by
  refine Ev_seq (h.mono ?_)
  intro e s hs
  cases e <;> simp only [CutQ] at hs
  obtain ⟨h1, rfl⟩ := hs
  exact Ev_le h1 k

/-- What is only read behind the call. -/
theorem PureOwn.frozen {f : FuncId} {args xs : List DV} {e : TypeId} {st : Nat} (hd : nameds 0 0 0 xs = true) (h : PureOwn P f args xs e st) : Pure P f args (.sl xs) := by
  refine Pure.of (by simpa [DV.named] using hd) (fun σ => ?_)
  intro w0 G vs w hS hr
  refine (h σ w0 G vs w hS hr).mono ?_
  rintro ed w' ⟨v, r, σ', G', he, ⟨rfl, rfl⟩, hS', hE', hv⟩
  obtain ⟨G2, k1, k2, k3⟩ := StoreRel.frzS hS' (id := σ.rows.length) (R := ⟨xs, e, st⟩) (by simp)
  refine ⟨v, .sl xs, _, G2, he, ⟨rfl, [none], [], [], ?_⟩, k1, hE'.trans k2, ?_⟩
  · simp
  · have := k3 _ _ hv
    rw [frz_row _ _ _ rfl] at this
    exact this
end
end Go.Val
