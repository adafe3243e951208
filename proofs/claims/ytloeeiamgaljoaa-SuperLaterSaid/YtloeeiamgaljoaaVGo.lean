/- Runs with what they write, in one go; the rules in a short form. -/
import Derived.Test.YtloeeiamgaljoaaVSimp
namespace Go.Val
open Go.RowKit
set_option linter.unusedSimpArgs false
set_option linter.unusedVariables false

def AllW (st : Nat) (ys : List DV) : Prop := ∀ y ∈ ys, y.cells.length = st
def AllC (σ : Store) (ys : List DV) : Prop := ∀ c ∈ flat ys, Cell1 σ c
theorem AllW_nil (st : Nat) : AllW st [] = True := by simp [AllW]
theorem AllW_cons (st : Nat) (x : DV) (xs : List DV) : AllW st (x :: xs) = (x.cells.length = st ∧ AllW st xs) := by simp [AllW]
theorem AllW_app (st : Nat) (xs ys : List DV) : AllW st (xs ++ ys) = (AllW st xs ∧ AllW st ys) := by
  simp only [AllW, List.mem_append, eq_iff_iff]
  exact ⟨fun h => ⟨fun y hy => h y (.inl hy), fun y hy => h y (.inr hy)⟩, fun h y hy => hy.elim (h.1 y) (h.2 y)⟩
theorem AllW_bytes (l : List UInt8) : AllW 1 (bytes l) = True := by simpa [AllW] using bytes_cell1 l
theorem AllC_nil (σ : Store) : AllC σ [] = True := by simp [AllC, flat]
theorem AllC_cons (σ : Store) (x : DV) (xs : List DV) : AllC σ (x :: xs) = ((∀ c ∈ x.cells, Cell1 σ c) ∧ AllC σ xs) := by
  simp only [AllC, flat_cons, List.mem_append, eq_iff_iff]
  exact ⟨fun h => ⟨fun y hy => h y (.inl hy), fun y hy => h y (.inr hy)⟩, fun h y hy => hy.elim (h.1 y) (h.2 y)⟩
theorem AllC_app (σ : Store) (xs ys : List DV) : AllC σ (xs ++ ys) = (AllC σ xs ∧ AllC σ ys) := by
  simp only [AllC, flat_append, List.mem_append, eq_iff_iff]
  exact ⟨fun h => ⟨fun y hy => h y (.inl hy), fun y hy => h y (.inr hy)⟩, fun h y hy => hy.elim (h.1 y) (h.2 y)⟩
theorem AllC_bytes (σ : Store) (l : List UInt8) : AllC σ (bytes l) = True := by
  simp only [AllC, flat_bytes_of, eq_iff_iff, iff_true]
  intro c hc; simp only [bytes, List.mem_map] at hc; obtain ⟨b, _, rfl⟩ := hc; trivial
theorem AllW_rep (st n : Nat) (d : DV) : AllW st (List.replicate n d) = (n = 0 ∨ d.cells.length = st) := by
  cases n with
  | zero => simp [AllW]
  | succ n => simp [AllW, List.mem_replicate]
theorem AllC_rep (σ : Store) (n : Nat) (d : DV) : AllC σ (List.replicate n d) = (n = 0 ∨ ∀ c ∈ d.cells, Cell1 σ c) := by
  cases n with
  | zero => simp [AllC, flat]
  | succ n =>
    simp only [AllC, flat, List.mem_flatMap, List.mem_replicate, eq_iff_iff]
    constructor
    · intro h; exact .inr (fun c hc => h c ⟨d, by simp, hc⟩)
    · rintro (h | h) c ⟨x, ⟨_, rfl⟩, hx⟩
      · cases h
      · exact h c hx
theorem rep_bytes (n : Nat) : List.replicate n (DV.int .u8 0) = bytes (List.replicate n 0) := by simp [bytes]
theorem bytes_app (l m : List UInt8) : bytes l ++ bytes m = bytes (l ++ m) := (bytes_append l m).symm
theorem bytes_snoc (l : List UInt8) (c : UInt8) : bytes l ++ [DV.int .u8 (c.toNat : Int)] = bytes (l ++ [c]) := (bytes_append l [c]).symm
theorem bytes_one (c : UInt8) : [DV.int .u8 (c.toNat : Int)] = bytes [c] := rfl
theorem allw_bytes (l : List UInt8) : (∀ x ∈ bytes l, x.cells.length = 1) = True := by simpa using bytes_cell1 l
theorem allc_bytes (σ : Store) (l : List UInt8) : (∀ x ∈ bytes l, Cell1 σ x) = True := by
  simp only [eq_iff_iff, iff_true]
  intro c hc; simp only [bytes, List.mem_map] at hc; obtain ⟨b, _, rfl⟩ := hc; trivial

def DV.asInt : DV → Option Int
  | .int _ n => some n
  | _ => none
def Ty.elem : Ty → Option TypeId
  | .slice e => some e
  | _ => none
def okElem (T : TypeId → TI) (e : TypeId) : Prop := (T e).ty ≠ .other ∧ 0 < (T e).size ∧ (T e).zero.cells.size = (T e).size ∧ 0 < (T e).bytes

def appD (T : TypeId → TI) (σ : Store) (e : TypeId) (C : Prop) (ys : List DV) : DV → Option (Prop × DV × Store)
  | .row id len =>
    match σ.rows[id]? with
    | some (some R) => some (okElem T e ∧ C ∧ R.xs.length = len ∧ R.e = e ∧ R.st = (T e).size ∧ AllW (T e).size ys ∧ AllC σ ys ∧ (len + ys.length) * (T e).bytes ≤ 140737488355328,
        .row id (len + ys.length), { σ with rows := σ.rows.set id (some ⟨R.xs ++ ys, R.e, R.st⟩) })
    | _ => none
  | .slt xs => some (okElem T e ∧ C ∧ AllW (T e).size xs ∧ (xs = [] ∨ ys ≠ []) ∧ AllW (T e).size ys ∧ AllC σ ys ∧ (xs.length + ys.length) * (T e).bytes ≤ 140737488355328,
        .row σ.rows.length (xs.length + ys.length), { σ with rows := σ.rows ++ [some ⟨xs ++ ys, e, (T e).size⟩] })
  | _ => none

/-- What is laid behind: so many noughts, or what a slice or text has. -/
def srcX (T : TypeId → TI) (σ : Store) (e t2 : TypeId) (d : DV) : Option (Prop × List DV) :=
  match (T t2).ty with
  | .int _ =>
    match d.asInt with
    | some n => some (0 ≤ n ∧ n * (T e).bytes ≤ 140737488355328, List.replicate n.toNat (ofVal (T e).zero))
    | none => none
  | _ => srcD T σ t2 d
/-- What writes, on values. -/
def effD (T : TypeId → TI) (σ : Store) (slots : List DV) (op : Op) : Option (Prop × DV × Store) :=
  match op with
  | .alloc e => some ((T e).ty ≠ .other, .ptr σ.boxes.length 0, { σ with boxes := σ.boxes ++ [some ⟨e, (ofVal (T e).zero).cells⟩] })
  | .box e x => some (Solid σ (get slots x), .ptr σ.boxes.length 0, { σ with boxes := σ.boxes ++ [some ⟨e, (get slots x).cells⟩] })
  | .makeSlice t x y =>
    match (T t).ty.elem with
    | some e =>
      match (get slots x).asInt with
      | some n =>
        match (get slots y).asInt with
        | some m => some (okElem T e ∧ 0 ≤ n ∧ n ≤ m ∧ m * (T e).bytes ≤ 281474976710656, .row σ.rows.length n.toNat, { σ with rows := σ.rows ++ [some ⟨List.replicate n.toNat (ofVal (T e).zero), e, (T e).size⟩] })
        | none => none
      | none => none
    | none => none
  | .call c =>
    match appCall c with
    | some (x, y, t, t2) =>
      match (T t).ty.elem with
      | some e =>
        match srcX T σ e t2 (get slots y) with
        | some (C, ys) => appD T σ e C ys (get slots x)
        | none => none
      | none => none
    | none => none
  | _ => none

section
variable {P : Program} {T : TypeId → TI}

theorem elem_some {y : Ty} {e : TypeId} (h : y.elem = some e) : y = .slice e := by
  cases y <;> simp only [Ty.elem, reduceCtorEq, Option.some.injEq] at h
  rw [h]
theorem asInt_some {d : DV} {n : Int} (h : d.asInt = some n) : ∃ k, d = .int k n := by
  cases d <;> simp only [DV.asInt, reduceCtorEq, Option.some.injEq] at h
  exact ⟨_, by rw [h]⟩
theorem effD_sound (hT : TOK P T) {slots : List DV} {σ σ' : Store} {o : Oper} {C : Prop} {d : DV} (h : effD T σ slots o.op = some (C, d, σ')) (hc : C) : Effect P ⟨slots, σ⟩ o (one d σ') := by
  unfold effD at h
  split at h
  · rename_i e ho
    simp only [Option.some.injEq, Prod.mk.injEq] at h
    obtain ⟨rfl, rfl, rfl⟩ := h
    exact Effect.alloc hT ho hc
  · rename_i e x ho
    simp only [Option.some.injEq, Prod.mk.injEq] at h
    obtain ⟨rfl, rfl, rfl⟩ := h
    exact Effect.box ho hc
  · rename_i t x y ho
    split at h
    · rename_i e he
      split at h
      · rename_i n hn
        split at h
        · rename_i m hm
          simp only [Option.some.injEq, Prod.mk.injEq] at h
          obtain ⟨rfl, rfl, rfl⟩ := h
          obtain ⟨⟨h1, h2, h3, h4⟩, h5, h6, h7⟩ := hc
          obtain ⟨k, hk⟩ := asInt_some hn
          obtain ⟨k', hk'⟩ := asInt_some hm
          exact Effect.make (s := ⟨slots, σ⟩) hT ho (elem_some he) h1 h2 h3 h4 hk hk' h5 h6 h7
        · simp at h
      · simp at h
    · simp at h
  · rename_i c ho
    split at h
    · rename_i x y t t2 hcall
      obtain ⟨a1, a2, a3⟩ := appCall_some hcall
      split at h
      · rename_i e he
        split at h
        · rename_i C1 ys hy
          have src : okElem T e → C1 → AllW (T e).size ys → ∀ w0 G a w, RelS w0 G ⟨slots, σ⟩ a w → ∃ new : Array Value, RelL G σ w (flat ys) new.toList ∧ AppSrc P T t t2 o.type e (a.eval y) ys.length new w := by
            intro ⟨h1, h2, h3, h4⟩ hc1 hw
            unfold srcX at hy
            split at hy
            · rename_i k hk
              split at hy
              · rename_i n hn
                simp only [Option.some.injEq, Prod.mk.injEq] at hy
                obtain ⟨rfl, rfl⟩ := hy
                obtain ⟨k', hk'⟩ := asInt_some hn
                exact AppSrc.zeros (s := ⟨slots, σ⟩) hT (elem_some he) hk h1 h2 h3 h4 hk' hc1.1 hc1.2
              · simp at hy
            · exact AppSrc.ofSrc (s := ⟨slots, σ⟩) hT (elem_some he) h1 h4 hy hc1 hw
          unfold appD at h
          split at h
          · rename_i id len hx
            split at h
            · rename_i R hR
              simp only [Option.some.injEq, Prod.mk.injEq] at h
              obtain ⟨rfl, rfl, rfl⟩ := h
              obtain ⟨hok, h5, h6, h7, h8, h9, h10, h11⟩ := hc
              exact Effect.appendS (s := ⟨slots, σ⟩) hT ho a1 a2 a3 hx hR h6 (elem_some he) hok.1 h7 h8 hok.2.2.1 hok.2.2.2 (src hok h5 h9) (by rw [h8]; exact h9) h10 h11
            · simp at h
          · rename_i xs hx
            simp only [Option.some.injEq, Prod.mk.injEq] at h
            obtain ⟨rfl, rfl, rfl⟩ := h
            obtain ⟨hok, h5, h6, h7, h8, h9, h10⟩ := hc
            exact Effect.appendNewS (s := ⟨slots, σ⟩) hT ho a1 a2 a3 hx (elem_some he) hok.1 hok.2.1 hok.2.2.1 hok.2.2.2 (src hok h5 h8) h6 h8 h7 h10
          · simp at h
        · simp at h
      · simp at h
    · simp at h
  · simp at h

/-- What an operation comes to: what must hold, the answer, the store. -/
def opX (T : TypeId → TI) (σ : Store) (s : List DV) (op : Op) : Option (Prop × DV × Store) :=
  match op with
  | .pick c a b =>
    match get s c with
    | .bool p => some (True, bif p then get s a else get s b, σ)
    | _ => none
  | .store t p x =>
    match storeD T σ t (get s p) (get s x) with
    | some (C, σ') => some (C, .undef, σ')
    | none => none
  | op =>
    match effD T σ s op with
    | some r => some r
    | none =>
      match stepA T σ s op with
      | some (C, d) => some (C, d, σ)
      | none => none

/-- Whether an operation is to be done; '.tup []': what an operation that was left out has. -/
def litB (want : Bool) : DV → Option Bool
  | .bool b => some (b == want)
  | .tup [] => some false
  | _ => none
def onX (dsts : List (Option Tmp)) (slots : List DV) (g : Option (Nat × Bool)) : Option Bool :=
  match g with
  | none => some true
  | some (j, want) =>
    match dsts.getD j none with
    | some t => litB want (slots.getD t .undef)
    | none => none
theorem onX_rel {dsts : List (Option Tmp)} {slots : List DV} {ops : Array Oper} (ho : ops.toList.map (·.dst) = dsts) {o : Oper} {b : Bool} {G : Gh} {σ : Store} {w : World} {a : Act}
    (h : RelL G σ w slots a.tmps.toList) (hw : onX dsts slots o.guard = some b) : Region.wanted o (yielded ops a.tmps) = b := by
  unfold onX at hw
  unfold Region.wanted
  split at hw
  · rename_i hg; rw [hg]; simpa using hw
  · rename_i j want hg
    rw [hg]
    have e : (ops[j]?).bind (·.dst) = dsts.getD j none := by
      rw [← ho, List.getD_eq_getElem?_getD, List.getElem?_map, Array.getElem?_toList]
      cases ops[j]? <;> rfl
    split at hw
    · rename_i t ht
      simp only [yielded, e, ht, Option.bind_some]
      unfold litB at hw
      have hs : ∀ d, slots.getD t .undef = d → d ≠ .undef → slots[t]? = some d := by
        intro d hd hne
        rw [List.getD_eq_getElem?_getD] at hd
        cases hq : slots[t]? with
        | none => rw [hq] at hd; simp at hd; exact absurd hd.symm hne
        | some x => rw [hq] at hd; simp at hd; rw [hd]
      split at hw
      · rename_i c hc
        obtain ⟨v, hv, hr⟩ := h.get (hs _ hc (by simp))
        cases hr
        rw [Array.getElem?_toList] at hv
        simp only [Option.some.injEq] at hw
        simp only [hv, ← hw]
        cases c <;> cases want <;> rfl
      · rename_i hc
        obtain ⟨v, hv, hr⟩ := h.get (hs _ hc (by simp))
        cases hr
        rename_i vs hl _
        have : vs = [] := by cases vs with | nil => rfl | cons _ _ => simp at hl
        subst this
        rw [Array.getElem?_toList] at hv
        simp only [Option.some.injEq] at hw
        subst hw
        simp only [hv]
        rfl
      · simp at hw
    · simp at hw

inductive Res where
  | at_ (C : Prop) (s : List DV) (σ : Store) (l : List Oper)
  | bad

/-- A guard other than the first one's: there the run stands still. -/
def stopsG (g0 g : Option (Nat × Bool)) : Bool :=
  match g with
  | none => false
  | some (j, w) =>
    match g0 with
    | none => true
    | some (j', w') => !(j == j' && w == w')

/-- As far as operations can be followed: what must hold, the slots, the store, and what is left. -/
def isLit (o : Oper) (l : List Oper) : Bool :=
  match o.op with
  | .buildSlice t _ _ =>
    match l with
    | o2 :: _ =>
      match o2.op with
      | .convert a b _ => a == b && a == t
      | _ => false
    | [] => false
  | _ => false
def runX (T : TypeId → TI) (dsts : List (Option Tmp)) (g0 : Option (Nat × Bool)) : List Oper → List DV → Store → Prop → Res
  | [], s, σ, C => .at_ C s σ []
  | o :: l, s, σ, C =>
    match stopsG g0 o.guard || isLit o l with
    | true => .at_ C s σ (o :: l)
    | false =>
      match onX dsts s o.guard with
      | none => .at_ C s σ (o :: l)
      | some false => runX T dsts g0 l (putS s o.dst (.tup [])) σ C
      | some true =>
        match opX T σ s o.op with
        | some (C', d, σ') => runX T dsts g0 l (putS s o.dst d) σ' (C ∧ C')
        | none => .at_ C s σ (o :: l)

variable {dsts : List (Option Tmp)} {l rest : List Oper} {slots slots' : List DV} {σ σ' : Store} {Q : Exit → St → Prop}

theorem storeD_sound (hT : TOK P T) {o : Oper} {t : TypeId} {p x : Operand} (ho : o.op = .store t p x) {C : Prop} (h : storeD T σ t (get slots p) (get slots x) = some (C, σ')) (hc : C) : Effect P ⟨slots, σ⟩ o (one .undef σ') := by
  unfold storeD at h
  split at h
  · rename_i b off hp
    split at h
    · rename_i B hB
      simp only [Option.some.injEq, Prod.mk.injEq] at h
      obtain ⟨rfl, rfl⟩ := h
      obtain ⟨c1, c2, c3, c4⟩ := hc
      exact Effect.store (s := ⟨slots, σ⟩) hT ho hp hB c1 c2 c3 c4
    · simp at h
  · rename_i id len i off hp
    split at h
    · rename_i R hR
      simp only [Option.some.injEq, Prod.mk.injEq] at h
      obtain ⟨rfl, rfl⟩ := h
      obtain ⟨c1, c2, c3, c4, c5, c6, c7⟩ := hc
      exact Effect.storeRow (s := ⟨slots, σ⟩) hT ho hp hR c1 c2 c3 c4 c5 c6 c7
    · simp at h
  · simp at h

theorem opX_sound (hT : TOK P T) {o : Oper} {C : Prop} {d : DV} (h : opX T σ slots o.op = some (C, d, σ')) (hc : C) :
    Effect P ⟨slots, σ⟩ o (one d σ') ∨ (σ' = σ ∧ Quiet P σ slots o d) := by
  unfold opX at h
  split at h
  · rename_i c a b ho
    split at h
    · rename_i p hp
      simp only [Option.some.injEq, Prod.mk.injEq] at h
      obtain ⟨rfl, rfl, rfl⟩ := h
      refine .inr ⟨rfl, ?_⟩
      cases p
      · exact Quiet.step hT (C := True) (d := get slots b) (by rw [ho]; simp only [stepQ, hp]) trivial
      · exact Quiet.step hT (C := True) (d := get slots a) (by rw [ho]; simp only [stepQ, hp]) trivial
    · simp at h
  · rename_i t p x ho
    split at h
    · rename_i C1 σ1 hst
      simp only [Option.some.injEq, Prod.mk.injEq] at h
      obtain ⟨rfl, rfl, rfl⟩ := h
      exact .inl (storeD_sound hT ho hst hc)
    · simp at h
  · split at h
    · rename_i r he
      simp only [Option.some.injEq] at h
      subst h
      exact .inl (effD_sound hT he hc)
    · split at h
      · rename_i C1 d1 hs
        simp only [Option.some.injEq, Prod.mk.injEq] at h
        obtain ⟨rfl, rfl, rfl⟩ := h
        exact .inr ⟨rfl, Quiet.stepA hT hs hc⟩
      · simp at h

theorem runX_ok (hT : TOK P T) {g0 : Option (Nat × Bool)} {C0 C : Prop} (h : runX T dsts g0 l slots σ C0 = .at_ C slots' σ' rest) (hc : C) : C0 ∧ (EvD P dsts rest slots' σ' Q → EvD P dsts l slots σ Q) := by
  induction l generalizing slots σ C0 with
  | nil => simp only [runX, Res.at_.injEq] at h; obtain ⟨rfl, rfl, rfl, rfl⟩ := h; exact ⟨hc, id⟩
  | cons o l ih =>
    have stop : ∀ (h : Res.at_ C0 slots σ (o :: l) = .at_ C slots' σ' rest), C0 ∧ (EvD P dsts rest slots' σ' Q → EvD P dsts (o :: l) slots σ Q) := by
      intro h
      simp only [Res.at_.injEq] at h; obtain ⟨rfl, rfl, rfl, rfl⟩ := h; exact ⟨hc, id⟩
    have put : ∀ {τ : Store} {d : DV}, (∀ ops : Array Oper, ops.toList.map (·.dst) = dsts → EvL P ops l ⟨putS slots o.dst d, τ⟩ Q) → ∀ ops : Array Oper, ops.toList.map (·.dst) = dsts → EvL P ops l (St.put ⟨slots, τ⟩ o.dst d) Q := by
      intro τ d k ops ho
      have := k ops ho
      cases hd : o.dst <;> rw [hd] at this <;> exact this
    unfold runX at h
    split at h
    · exact stop h
    · cases hon : onX dsts slots o.guard with
      | none => rw [hon] at h; exact stop h
      | some b =>
        rw [hon] at h
        cases b with
        | false =>
          obtain ⟨h1, h2⟩ := ih h
          refine ⟨h1, fun k ops ho => ?_⟩
          intro w0 G0 σ0 W0 G a w hx hr
          rw [wpList, if_neg (by rw [onX_rel ho hr.2.1 hon]; simp)]
          have k1 := put (h2 k) ops ho
          refine k1 w0 G0 σ0 W0 G _ w (by rw [put_σ]; exact hx) ⟨by rw [put_defers]; exact hr.1, ?_, by rw [put_σ]; exact hr.2.2⟩
          rw [put_σ]
          exact RelL_put hr.2.1 (.tup [] [] rfl (fun i c v hc => by simp at hc)) o.dst
        | true =>
          have hon : onD dsts slots o.guard = some true := by
            unfold onX at hon
            unfold onD
            split at hon
            · rename_i hg; simp [hg]
            · rename_i j want hg
              simp only [hg]
              split at hon
              · rename_i t ht
                unfold litB at hon
                split at hon
                · rename_i b hb
                  simp only [ht, hb, litG]; exact hon
                · simp at hon
                · simp at hon
              · simp at hon
          simp only at h
          split at h
          · rename_i C' d σ1 he
            obtain ⟨⟨h0, h1⟩, h2⟩ := ih h
            refine ⟨h0, fun k ops ho => ?_⟩
            rcases opX_sound hT he h1 with hE | ⟨rfl, hq⟩
            · refine EvL_effect (onD_wanted ho hon) hE ?_
              rintro r τ ⟨rfl, rfl⟩
              exact put (h2 k) ops ho
            · exact EvL_quiet (onD_wanted ho hon) hq (put (h2 k) ops ho)
          · exact stop h
end
theorem cond_bools (p x y : Bool) : (bif p then DV.bool x else DV.bool y) = .bool (bif p then x else y) := by cases p <;> rfl
theorem cond_and (p x : Bool) : (bif p then x else false) = (p && x) := by cases p <;> rfl
theorem cond_or (p x : Bool) : (bif p then true else x) = (p || x) := by cases p <;> rfl
theorem cond_ints (p : Bool) (k : IntKind) (x y : Int) : (bif p then DV.int k x else DV.int k y) = .int k (bif p then x else y) := by cases p <;> rfl
attribute [go_sem] bytes_app bytes_snoc srcX AllW_rep AllC_rep rep_bytes or_true true_or or_false false_or Int.reduceAdd Int.reduceSub Int.reduceMul Int.reduceNeg List.length_replicate
attribute [go_sem] AllW_nil AllW_cons AllW_app AllW_bytes AllC_nil AllC_cons AllC_app AllC_bytes allw_bytes allc_bytes DV.asInt Ty.elem okElem appD appCall effD opX isLit stopsG onX litB runX srcD cond_true cond_false cond_bools cond_and cond_or cond_ints Nat.reduceBEq Bool.and_true Bool.true_and Bool.and_false Bool.false_and Bool.or_false Bool.false_or Bool.or_true Bool.true_or bytes_take bytes_drop putS
end Go.Val
