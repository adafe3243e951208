/- Runs with what they write, in one go; the rules in a short form. The rules in a short form: what can be reckoned is reckoned by itself. What a function answers: rows that it hands back are only read from then on. Numbers as octets, the highest first; octets' number. Texts' octets as a row of one's own; a loop's first round. Regions that draw their order, in the short rules: what is only read there are variables, never rows that are written. A round that leaves variables and rows of its own behind. -/
import Derived.Test.YtlfnmgmbmgacgaaVM4
section
namespace Go.Val
open Go.RowKit
set_option linter.unusedSimpArgs false
set_option linter.unusedVariables false

def AllW (st : Nat) (ys : List DV) : Prop := ∀ y ∈ ys, y.cells.length = st
def AllC (σ : Store) (ys : List DV) : Prop := ∀ c ∈ flat ys, Cell1 σ c
theorem AllW_nil (st : Nat) : AllW st [] = True := by simp [AllW]
theorem AllW_cons (st : Nat) (x : DV) (xs : List DV) : AllW st (x :: xs) = (x.cells.length = st ∧ AllW st xs) := by simp [AllW]
theorem AllW_app (st : Nat) (xs ys : List DV) : AllW st (xs ++ ys) = (AllW st xs ∧ AllW st ys) := by
 simp only [AllW, List.mem_append, eq_iff_iff]
 exact ⟨fun h => ⟨fun y hy => h y (.inl hy), fun y hy => h y (.inr hy)⟩, fun h y hy => hy.elim (h.1 y) (h.2 y)⟩
theorem AllW_bytes (l : List UInt8) : AllW 1 (bytes l) = True := by simpa [AllW] using bytes_cell1 l
theorem AllC_nil (σ : Store) : AllC σ [] = True := by simp [AllC, flat]
theorem AllC_cons (σ : Store) (x : DV) (xs : List DV) : AllC σ (x :: xs) = ((∀ c ∈ x.cells, Cell1 σ c) ∧ AllC σ xs) := by
 simp only [AllC, flat_cons, List.mem_append, eq_iff_iff]
 exact ⟨fun h => ⟨fun y hy => h y (.inl hy), fun y hy => h y (.inr hy)⟩, fun h y hy => hy.elim (h.1 y) (h.2 y)⟩
theorem AllC_app (σ : Store) (xs ys : List DV) : AllC σ (xs ++ ys) = (AllC σ xs ∧ AllC σ ys) := by
 simp only [AllC, flat_append, List.mem_append, eq_iff_iff]
 exact ⟨fun h => ⟨fun y hy => h y (.inl hy), fun y hy => h y (.inr hy)⟩, fun h y hy => hy.elim (h.1 y) (h.2 y)⟩
theorem AllC_bytes (σ : Store) (l : List UInt8) : AllC σ (bytes l) = True := by
 simp only [AllC, flat_bytes_of, eq_iff_iff, iff_true]
 intro c hc; simp only [bytes, List.mem_map] at hc; obtain ⟨b, _, rfl⟩ := hc; trivial
theorem AllW_rep (st n : Nat) (d : DV) : AllW st (List.replicate n d) = (n = 0 ∨ d.cells.length = st) := by
 cases n with
 | zero => simp [AllW]
 | succ n => simp [AllW, List.mem_replicate]
theorem AllC_rep (σ : Store) (n : Nat) (d : DV) : AllC σ (List.replicate n d) = (n = 0 ∨ ∀ c ∈ d.cells, Cell1 σ c) := by
 cases n with
 | zero => simp [AllC, flat]
 | succ n =>
  simp only [AllC, flat, List.mem_flatMap, List.mem_replicate, eq_iff_iff]
  constructor
  ·intro h; exact .inr (fun c hc => h c ⟨d, by simp, hc⟩)
  ·rintro (h | h) c ⟨x, ⟨_, rfl⟩, hx⟩
   ·cases h
   ·exact h c hx
theorem rep_bytes (n : Nat) : List.replicate n (DV.int .u8 0) = bytes (List.replicate n 0) := by simp [bytes]
theorem bytes_app (l m : List UInt8) : bytes l ++ bytes m = bytes (l ++ m) := (bytes_append l m).symm
theorem bytes_snoc (l : List UInt8) (c : UInt8) : bytes l ++ [DV.int .u8 (c.toNat : Int)] = bytes (l ++ [c]) := (bytes_append l [c]).symm
theorem allw_bytes (l : List UInt8) : (∀ x ∈ bytes l, x.cells.length = 1) = True := by simpa using bytes_cell1 l
theorem allc_bytes (σ : Store) (l : List UInt8) : (∀ x ∈ bytes l, Cell1 σ x) = True := by
 simp only [eq_iff_iff, iff_true]
 intro c hc; simp only [bytes, List.mem_map] at hc; obtain ⟨b, _, rfl⟩ := hc; trivial

def DV.asInt : DV → Option Int
 | .int _ n => some n
 | _ => none
def Ty.elem : Ty → Option TypeId
 | .slice e => some e
 | _ => none
def okElem (T : TypeId → TI) (e : TypeId) : Prop := (T e).ty ≠ .other ∧ 0 < (T e).size ∧ (T e).zero.cells.size = (T e).size ∧ 0 < (T e).bytes

def appD (T : TypeId → TI) (σ : Store) (e : TypeId) (C : Prop) (ys : List DV) : DV → Option (Prop × DV × Store)
 | .row id len =>
  match σ.rows[id]? with
  | some (some R) => some (okElem T e ∧ C ∧ R.xs.length = len ∧ R.e = e ∧ R.st = (T e).size ∧ AllW (T e).size ys ∧ AllC σ ys ∧ (len + ys.length) * (T e).bytes ≤ 140737488355328,
    .row id (len + ys.length), { σ with rows := σ.rows.set id (some ⟨R.xs ++ ys, R.e, R.st⟩) })
  | _ => none
 | .slt xs => some (okElem T e ∧ C ∧ AllW (T e).size xs ∧ (xs = [] ∨ ys ≠ []) ∧ AllW (T e).size ys ∧ AllC σ ys ∧ (xs.length + ys.length) * (T e).bytes ≤ 140737488355328,
    .row σ.rows.length (xs.length + ys.length), { σ with rows := σ.rows ++ [some ⟨xs ++ ys, e, (T e).size⟩] })
 | _ => none

def srcX (T : TypeId → TI) (σ : Store) (e t2 : TypeId) (d : DV) : Option (Prop × List DV) :=
 match (T t2).ty with
 | .int _ =>
  match d.asInt with
  | some n => some (0 ≤ n ∧ n * (T e).bytes ≤ 140737488355328, List.replicate n.toNat (ofVal (T e).zero))
  | none => none
 | _ => srcD T σ t2 d
def effD (T : TypeId → TI) (σ : Store) (slots : List DV) (op : Op) : Option (Prop × DV × Store) :=
 match op with
 | .alloc e => some ((T e).ty ≠ .other, .ptr σ.boxes.length 0, { σ with boxes := σ.boxes ++ [some ⟨e, (ofVal (T e).zero).cells⟩] })
 | .box e x => some (Solid σ (get slots x), .ptr σ.boxes.length 0, { σ with boxes := σ.boxes ++ [some ⟨e, (get slots x).cells⟩] })
 | .makeSlice t x y =>
  match (T t).ty.elem with
  | some e =>
   match (get slots x).asInt with
   | some n =>
    match (get slots y).asInt with
    | some m => some (okElem T e ∧ 0 ≤ n ∧ n ≤ m ∧ m * (T e).bytes ≤ 281474976710656, .row σ.rows.length n.toNat, { σ with rows := σ.rows ++ [some ⟨List.replicate n.toNat (ofVal (T e).zero), e, (T e).size⟩] })
    | none => none
   | none => none
  | none => none
 | .call c =>
  match appCall c with
  | some (x, y, t, t2) =>
   match (T t).ty.elem with
   | some e =>
    match srcX T σ e t2 (get slots y) with
    | some (C, ys) => appD T σ e C ys (get slots x)
    | none => none
   | none => none
  | none => none
 | _ => none

section
variable {P : Program} {T : TypeId → TI}

theorem elem_some {y : Ty} {e : TypeId} (h : y.elem = some e) : y = .slice e := by
 cases y <;> simp only [Ty.elem, reduceCtorEq, Option.some.injEq] at h
 rw [h]
theorem asInt_some {d : DV} {n : Int} (h : d.asInt = some n) : ∃ k, d = .int k n := by
 cases d <;> simp only [DV.asInt, reduceCtorEq, Option.some.injEq] at h
 exact ⟨_, by rw [h]⟩
theorem effD_sound (hT : TOK P T) {slots : List DV} {σ σ' : Store} {o : Oper} {C : Prop} {d : DV} (h : effD T σ slots o.op = some (C, d, σ')) (hc : C) : Effect P ⟨slots, σ⟩ o (one d σ') := by
 unfold effD at h
 split at h
 ·rename_i e ho
  simp only [Option.some.injEq, Prod.mk.injEq] at h
  obtain ⟨rfl, rfl, rfl⟩ := h
  exact Effect.alloc hT ho hc
 ·rename_i e x ho
  simp only [Option.some.injEq, Prod.mk.injEq] at h
  obtain ⟨rfl, rfl, rfl⟩ := h
  exact Effect.box ho hc
 ·rename_i t x y ho
  split at h
  ·rename_i e he
   split at h
   ·rename_i n hn
    split at h
    ·rename_i m hm
     simp only [Option.some.injEq, Prod.mk.injEq] at h
     obtain ⟨rfl, rfl, rfl⟩ := h
     obtain ⟨⟨h1, h2, h3, h4⟩, h5, h6, h7⟩ := hc
     obtain ⟨k, hk⟩ := asInt_some hn
     obtain ⟨k', hk'⟩ := asInt_some hm
     exact Effect.make (s := ⟨slots, σ⟩) hT ho (elem_some he) h1 h2 h3 h4 hk hk' h5 h6 h7
    ·simp at h
   ·simp at h
  ·simp at h
 ·rename_i c ho
  split at h
  ·rename_i x y t t2 hcall
   obtain ⟨a1, a2, a3⟩ := appCall_some hcall
   split at h
   ·rename_i e he
    split at h
    ·rename_i C1 ys hy
     have src : okElem T e → C1 → AllW (T e).size ys → ∀ w0 G a w, RelS w0 G ⟨slots, σ⟩ a w → ∃ new : Array Value, RelL G σ w (flat ys) new.toList ∧ AppSrc P T t t2 o.type e (a.eval y) ys.length new w := by
      intro ⟨h1, h2, h3, h4⟩ hc1 hw
      unfold srcX at hy
      split at hy
      ·rename_i k hk
       split at hy
       ·rename_i n hn
        simp only [Option.some.injEq, Prod.mk.injEq] at hy
        obtain ⟨rfl, rfl⟩ := hy
        obtain ⟨k', hk'⟩ := asInt_some hn
        exact AppSrc.zeros (s := ⟨slots, σ⟩) hT (elem_some he) hk h1 h2 h3 h4 hk' hc1.1 hc1.2
       ·simp at hy
      ·exact AppSrc.ofSrc (s := ⟨slots, σ⟩) hT (elem_some he) h1 h4 hy hc1 hw
     unfold appD at h
     split at h
     ·rename_i id len hx
      split at h
      ·rename_i R hR
       simp only [Option.some.injEq, Prod.mk.injEq] at h
       obtain ⟨rfl, rfl, rfl⟩ := h
       obtain ⟨hok, h5, h6, h7, h8, h9, h10, h11⟩ := hc
       exact Effect.appendS (s := ⟨slots, σ⟩) hT ho a1 a2 a3 hx hR h6 (elem_some he) hok.1 h7 h8 hok.2.2.1 hok.2.2.2 (src hok h5 h9) (by rw [h8]; exact h9) h10 h11
      ·simp at h
     ·rename_i xs hx
      simp only [Option.some.injEq, Prod.mk.injEq] at h
      obtain ⟨rfl, rfl, rfl⟩ := h
      obtain ⟨hok, h5, h6, h7, h8, h9, h10⟩ := hc
      exact Effect.appendNewS (s := ⟨slots, σ⟩) hT ho a1 a2 a3 hx (elem_some he) hok.1 hok.2.1 hok.2.2.1 hok.2.2.2 (src hok h5 h8) h6 h8 h7 h10
     ·simp at h
    ·simp at h
   ·simp at h
  ·simp at h
 ·simp at h

def opX (T : TypeId → TI) (σ : Store) (s : List DV) (op : Op) : Option (Prop × DV × Store) :=
 match op with
 | .pick c a b =>
  match get s c with
  | .bool p => some (True, bif p then get s a else get s b, σ)
  | _ => none
 | .store t p x =>
  match storeD T σ t (get s p) (get s x) with
  | some (C, σ') => some (C, .undef, σ')
  | none => none
 | op =>
  match effD T σ s op with
  | some r => some r
  | none =>
   match stepA T σ s op with
   | some (C, d) => some (C, d, σ)
   | none => none

def litB (want : Bool) : DV → Option Bool
 | .bool b => some (b == want)
 | .tup [] => some false
 | _ => none
def onX (dsts : List (Option Tmp)) (slots : List DV) (g : Option (Nat × Bool)) : Option Bool :=
 match g with
 | none => some true
 | some (j, want) =>
  match dsts.getD j none with
  | some t => litB want (slots.getD t .undef)
  | none => none
theorem onX_rel {dsts : List (Option Tmp)} {slots : List DV} {ops : Array Oper} (ho : ops.toList.map (·.dst) = dsts) {o : Oper} {b : Bool} {G : Gh} {σ : Store} {w : World} {a : Act}
  (h : RelL G σ w slots a.tmps.toList) (hw : onX dsts slots o.guard = some b) : Region.wanted o (yielded ops a.tmps) = b := by
 unfold onX at hw
 unfold Region.wanted
 split at hw
 ·rename_i hg; rw [hg]; simpa using hw
 ·rename_i j want hg
  rw [hg]
  have e : (ops[j]?).bind (·.dst) = dsts.getD j none := by
   rw [← ho, List.getD_eq_getElem?_getD, List.getElem?_map, Array.getElem?_toList]
   cases ops[j]? <;> rfl
  split at hw
  ·rename_i t ht
   simp only [yielded, e, ht, Option.bind_some]
   unfold litB at hw
   have hs : ∀ d, slots.getD t .undef = d → d ≠ .undef → slots[t]? = some d := by
    intro d hd hne
    rw [List.getD_eq_getElem?_getD] at hd
    cases hq : slots[t]? with
    | none => rw [hq] at hd; simp at hd; exact absurd hd.symm hne
    | some x => rw [hq] at hd; simp at hd; rw [hd]
   split at hw
   ·rename_i c hc
    obtain ⟨v, hv, hr⟩ := h.get (hs _ hc (by simp))
    cases hr
    rw [Array.getElem?_toList] at hv
    simp only [Option.some.injEq] at hw
    simp only [hv, ← hw]
    cases c <;> cases want <;> rfl
   ·rename_i hc
    obtain ⟨v, hv, hr⟩ := h.get (hs _ hc (by simp))
    cases hr
    rename_i vs hl _
    have : vs = [] := by cases vs with | nil => rfl | cons _ _ => simp at hl
    subst this
    rw [Array.getElem?_toList] at hv
    simp only [Option.some.injEq] at hw
    subst hw
    simp only [hv]
    rfl
   ·simp at hw
  ·simp at hw

inductive Res where
 | at_ (C : Prop) (s : List DV) (σ : Store) (l : List Oper)
 | bad

def stopsG (g0 g : Option (Nat × Bool)) : Bool :=
 match g with
 | none => false
 | some (j, w) =>
  match g0 with
  | none => true
  | some (j', w') => !(j == j' && w == w')

def isLit (o : Oper) (l : List Oper) : Bool :=
 match o.op with
 | .buildSlice t _ _ =>
  match l with
  | o2 :: _ =>
   match o2.op with
   | .convert a b _ => a == b && a == t
   | _ => false
  | [] => false
 | _ => false
def runX (T : TypeId → TI) (dsts : List (Option Tmp)) (g0 : Option (Nat × Bool)) : List Oper → List DV → Store → Prop → Res
 | [], s, σ, C => .at_ C s σ []
 | o :: l, s, σ, C =>
  match stopsG g0 o.guard || isLit o l with
  | true => .at_ C s σ (o :: l)
  | false =>
   match onX dsts s o.guard with
   | none => .at_ C s σ (o :: l)
   | some false => runX T dsts g0 l (putS s o.dst (.tup [])) σ C
   | some true =>
    match opX T σ s o.op with
    | some (C', d, σ') => runX T dsts g0 l (putS s o.dst d) σ' (C ∧ C')
    | none => .at_ C s σ (o :: l)

variable {dsts : List (Option Tmp)} {l rest : List Oper} {slots slots' : List DV} {σ σ' : Store} {Q : Exit → St → Prop}

theorem storeD_sound (hT : TOK P T) {o : Oper} {t : TypeId} {p x : Operand} (ho : o.op = .store t p x) {C : Prop} (h : storeD T σ t (get slots p) (get slots x) = some (C, σ')) (hc : C) : Effect P ⟨slots, σ⟩ o (one .undef σ') := by
 unfold storeD at h
 split at h
 ·rename_i b off hp
  split at h
  ·rename_i B hB
   simp only [Option.some.injEq, Prod.mk.injEq] at h
   obtain ⟨rfl, rfl⟩ := h
   obtain ⟨c1, c2, c3, c4⟩ := hc
   exact Effect.store (s := ⟨slots, σ⟩) hT ho hp hB c1 c2 c3 c4
  ·simp at h
 ·rename_i id len i off hp
  split at h
  ·rename_i R hR
   simp only [Option.some.injEq, Prod.mk.injEq] at h
   obtain ⟨rfl, rfl⟩ := h
   obtain ⟨c1, c2, c3, c4, c5, c6, c7⟩ := hc
   exact Effect.storeRow (s := ⟨slots, σ⟩) hT ho hp hR c1 c2 c3 c4 c5 c6 c7
  ·simp at h
 ·simp at h

theorem opX_sound (hT : TOK P T) {o : Oper} {C : Prop} {d : DV} (h : opX T σ slots o.op = some (C, d, σ')) (hc : C) :
  Effect P ⟨slots, σ⟩ o (one d σ') ∨ (σ' = σ ∧ Quiet P σ slots o d) := by
 unfold opX at h
 split at h
 ·rename_i c a b ho
  split at h
  ·rename_i p hp
   simp only [Option.some.injEq, Prod.mk.injEq] at h
   obtain ⟨rfl, rfl, rfl⟩ := h
   refine .inr ⟨rfl, ?_⟩
   cases p
   ·exact Quiet.step hT (C := True) (d := get slots b) (by rw [ho]; simp only [stepQ, hp]) trivial
   ·exact Quiet.step hT (C := True) (d := get slots a) (by rw [ho]; simp only [stepQ, hp]) trivial
  ·simp at h
 ·rename_i t p x ho
  split at h
  ·rename_i C1 σ1 hst
   simp only [Option.some.injEq, Prod.mk.injEq] at h
   obtain ⟨rfl, rfl, rfl⟩ := h
   exact .inl (storeD_sound hT ho hst hc)
  ·simp at h
 ·split at h
  ·rename_i r he
   simp only [Option.some.injEq] at h
   subst h
   exact .inl (effD_sound hT he hc)
  ·split at h
   ·rename_i C1 d1 hs
    simp only [Option.some.injEq, Prod.mk.injEq] at h
    obtain ⟨rfl, rfl, rfl⟩ := h
    exact .inr ⟨rfl, Quiet.stepA hT hs hc⟩
   ·simp at h

theorem runX_ok (hT : TOK P T) {g0 : Option (Nat × Bool)} {C0 C : Prop} (h : runX T dsts g0 l slots σ C0 = .at_ C slots' σ' rest) (hc : C) : C0 ∧ (EvD P dsts rest slots' σ' Q → EvD P dsts l slots σ Q) := by
 induction l generalizing slots σ C0 with
 | nil => simp only [runX, Res.at_.injEq] at h; obtain ⟨rfl, rfl, rfl, rfl⟩ := h; exact ⟨hc, id⟩
 | cons o l ih =>
  have stop : ∀ (h : Res.at_ C0 slots σ (o :: l) = .at_ C slots' σ' rest), C0 ∧ (EvD P dsts rest slots' σ' Q → EvD P dsts (o :: l) slots σ Q) := by
   intro h
   simp only [Res.at_.injEq] at h; obtain ⟨rfl, rfl, rfl, rfl⟩ := h; exact ⟨hc, id⟩
  have put : ∀ {τ : Store} {d : DV}, (∀ ops : Array Oper, ops.toList.map (·.dst) = dsts → EvL P ops l ⟨putS slots o.dst d, τ⟩ Q) → ∀ ops : Array Oper, ops.toList.map (·.dst) = dsts → EvL P ops l (St.put ⟨slots, τ⟩ o.dst d) Q := by
   intro τ d k ops ho
   have := k ops ho
   cases hd : o.dst <;> rw [hd] at this <;> exact this
  unfold runX at h
  split at h
  ·exact stop h
  ·cases hon : onX dsts slots o.guard with
   | none => rw [hon] at h; exact stop h
   | some b =>
    rw [hon] at h
    cases b with
    | false =>
     obtain ⟨h1, h2⟩ := ih h
     refine ⟨h1, fun k ops ho => ?_⟩
     intro w0 G0 σ0 W0 G a w hx hr
     rw [wpList, if_neg (by rw [onX_rel ho hr.2.1 hon]; simp)]
     have k1 := put (h2 k) ops ho
     refine k1 w0 G0 σ0 W0 G _ w (by rw [put_σ]; exact hx) ⟨by rw [put_defers]; exact hr.1, ?_, by rw [put_σ]; exact hr.2.2⟩
     rw [put_σ]
     exact RelL_put hr.2.1 (.tup [] [] rfl (fun i c v hc => by simp at hc)) o.dst
    | true =>
     have hon : onD dsts slots o.guard = some true := by
      unfold onX at hon
      unfold onD
      split at hon
      ·rename_i hg; simp [hg]
      ·rename_i j want hg
       simp only [hg]
       split at hon
       ·rename_i t ht
        unfold litB at hon
        split at hon
        ·rename_i b hb
         simp only [ht, hb, litG]; exact hon
        ·simp at hon
        ·simp at hon
       ·simp at hon
     simp only at h
     split at h
     ·rename_i C' d σ1 he
      obtain ⟨⟨h0, h1⟩, h2⟩ := ih h
      refine ⟨h0, fun k ops ho => ?_⟩
      rcases opX_sound hT he h1 with hE | ⟨rfl, hq⟩
      ·refine EvL_effect (onD_wanted ho hon) hE ?_
       rintro r τ ⟨rfl, rfl⟩
       exact put (h2 k) ops ho
      ·exact EvL_quiet (onD_wanted ho hon) hq (put (h2 k) ops ho)
     ·exact stop h
end
theorem cond_bools (p x y : Bool) : (bif p then DV.bool x else DV.bool y) = .bool (bif p then x else y) := by cases p <;> rfl
theorem cond_and (p x : Bool) : (bif p then x else false) = (p && x) := by cases p <;> rfl
theorem cond_or (p x : Bool) : (bif p then true else x) = (p || x) := by cases p <;> rfl
theorem cond_ints (p : Bool) (k : IntKind) (x y : Int) : (bif p then DV.int k x else DV.int k y) = .int k (bif p then x else y) := by cases p <;> rfl
attribute [go_sem] bytes_app bytes_snoc srcX AllW_rep AllC_rep rep_bytes or_true true_or or_false false_or Int.reduceAdd Int.reduceSub Int.reduceMul Int.reduceNeg List.length_replicate
attribute [go_sem] AllW_nil AllW_cons AllW_app AllW_bytes AllC_nil AllC_cons AllC_app AllC_bytes allw_bytes allc_bytes DV.asInt Ty.elem okElem appD appCall effD opX isLit stopsG onX litB runX srcD cond_true cond_false cond_bools cond_and cond_or cond_ints Nat.reduceBEq Bool.and_true Bool.true_and Bool.and_false Bool.false_and Bool.or_false Bool.false_or Bool.or_true Bool.true_or bytes_take bytes_drop putS
end Go.Val
end

section
namespace Go.Val
open Go.RowKit
set_option linter.unusedSimpArgs false
set_option linter.unusedVariables false

class FnC (P : Program) (f : FuncId) : Prop where
 at_ : FnAt P f
class Con (P : Program) (f : FuncId) (args : List DV) (C : outParam Prop) (d : outParam DV) : Prop where
 ok : C → Pure P f args d
class ConOwn (P : Program) (f : FuncId) (args : List DV) (C : outParam Prop) (xs : outParam (List DV)) (e : outParam TypeId) (st : outParam Nat) : Prop where
 ok : C → PureOwn P f args xs e st
def PureApp (P : Program) (f : FuncId) (args : List DV) (ys : List DV) (e : TypeId) (st : Nat) (room : Nat) : Prop :=
 ∀ σ id xs, σ.rows[id]? = some (some ⟨xs, e, st⟩) → xs.length ≤ room → Does P f (.row id xs.length :: args) σ (one (.row id (xs.length + ys.length)) { σ with rows := σ.rows.set id (some ⟨xs ++ ys, e, st⟩) })
class ConApp (P : Program) (f : FuncId) (args : List DV) (C : outParam Prop) (ys : outParam (List DV)) (e : outParam TypeId) (st room : outParam Nat) : Prop where
 ok : C → PureApp P f args ys e st room

def EvC (P : Program) (f : FuncId) (args : List DV) (t : Option Tmp) (dsts : List (Option Tmp)) (rest : List Oper) (slots : List DV) (σ : Store) (Q : Exit → St → Prop) : Prop :=
 ∀ ops : Array Oper, ops.toList.map (·.dst) = dsts → ∀ w0 G0 σ0 W0 G a w (vs : Array Value), Ext G0 σ0 W0 G σ w → RelS w0 G ⟨slots, σ⟩ a w → RelL G σ w args vs.toList →
  Calls P f vs w fun e w' => ∃ v, e = .returned v ∧ wpList P ops (Post w0 G0 σ0 W0 Q) rest (a.put t v) w'
theorem EvC_does {P : Program} {f : FuncId} {args : List DV} {t : Option Tmp} {dsts : List (Option Tmp)} {rest : List Oper} {slots : List DV} {σ : Store} {Q : Exit → St → Prop} {R : DV → Store → Prop}
  (hF : Does P f args σ R) (k : ∀ r σ', R r σ' → EvD P dsts rest (putS slots t r) σ' Q) : EvC P f args t dsts rest slots σ Q := by
 intro ops ho w0 G0 σ0 W0 G a w vs hx hr hrel
 refine (hF w0 G vs w hr.2.2 hrel).mono ?_
 rintro e w' ⟨v, r, σ', G', rfl, hR, hS, hE, hv⟩
 refine ⟨v, rfl, ?_⟩
 have k1 := k r σ' hR ops ho
 refine k1 w0 G0 σ0 W0 G' _ w' (hx.trans hE) ⟨by rw [put_defers]; exact hr.1.ext hE, ?_, hS⟩
 have := RelL_put (hr.2.1.ext hE) hv t
 rw [← putS_eq slots σ' t r]
 exact this

theorem LeL.cons2 {d d' : DV} {ds ds' : List DV} (hs : LeL ds ds') (h : Le d d') : LeL (d :: ds) (d' :: ds') := LeL.cons h hs

section
variable {P : Program} {T : TypeId → TI} {dsts : List (Option Tmp)} {l rest : List Oper} {slots slots' : List DV} {σ σ' : Store} {Q : Exit → St → Prop} {dst : Option Tmp} {op : Op} {ty : TypeId} {pos : String} {af : Array Edge} {g : Option (Nat × Bool)}

def weakD : DV → DV
 | .slt xs => .sl xs
 | d => d
def weakL (l : List DV) : List DV := l.map weakD
theorem weakD_slt (xs : List DV) : weakD (.slt xs) = .sl xs := rfl
theorem weakD_sl (xs : List DV) : weakD (.sl xs) = .sl xs := rfl
theorem weakD_int (k : IntKind) (n : Int) : weakD (.int k n) = .int k n := rfl
theorem weakD_bool (n : Bool) : weakD (.bool n) = .bool n := rfl
theorem weakD_str (n : List UInt8) : weakD (.str n) = .str n := rfl
theorem weakD_agg (n : List DV) : weakD (.agg n) = .agg n := rfl
theorem weakD_row (n m : Nat) : weakD (.row n m) = .row n m := rfl
theorem weakD_ptr (n m : Nat) : weakD (.ptr n m) = .ptr n m := rfl
theorem weakD_cp (n : List DV) : weakD (.cp n) = .cp n := rfl
theorem weakD_rp (a b c d : Nat) : weakD (.rp a b c d) = .rp a b c d := rfl
theorem weakD_nilp : weakD .nilp = .nilp := rfl
theorem weakD_fn (f : Fn) (a b : List DV) : weakD (.fn f a b) = .fn f a b := rfl
theorem weakD_mp (n : Nat) : weakD (.mp n) = .mp n := rfl
theorem weakD_it (n : Nat) : weakD (.it n) = .it n := rfl
theorem weakD_cm (a b : List DV) : weakD (.cm a b) = .cm a b := rfl
theorem weakD_undef : weakD .undef = .undef := rfl
theorem LeL_weak (l : List DV) : LeL l (weakL l) := by
 induction l with
 | nil => exact LeL.nil
 | cons d l ih =>
  refine LeL.cons ?_ ih
  cases d
  case slt xs => exact Le.sl xs
  all_goals exact Le.refl _

/-! ### regions -/
theorem W_reg {id : Nat} (h : EvD P dsts l slots σ Q) (hd : l.map (·.dst) = dsts := by simp only [List.map_cons, List.map_nil]; exact rfl) : Ev P (.region id l.toArray false) ⟨slots, σ⟩ Q := Ev_regionD hd h
theorem W_run (hT : TOK P T) {o : Oper} {C : Prop} (k : EvD P dsts rest slots' σ' Q) (hc : C)
  (h : runX T dsts o.guard (o :: l) slots σ True = .at_ C slots' σ' rest := by simp (maxSteps := 1000000) (disch := omega) only [go_sem]; with_reducible exact rfl)
  (hp : rest.length < (o :: l).length := by decide) : EvD P dsts (o :: l) slots σ Q := (runX_ok hT h hc).2 k
theorem W_nil (h : Q .normal ⟨slots, σ⟩) : EvD P dsts [] slots σ Q := EvD_nil h

/-! ### calls -/
theorem W_callee {c : Call} {f : FuncId} {args : List DV} (k : EvC P f args dst dsts rest slots σ Q) [hf : FnC P f]
  (hon : onD dsts slots g = some true := by simp only [go_sem] <;> fail)
  (h : calleeD P slots c = some (f, args) := by simp (disch := omega) only [go_sem]; with_reducible exact rfl) :
  EvD P dsts (⟨dst, .call c, ty, pos, af, g⟩ :: rest) slots σ Q := by
 intro ops ho w0 G0 σ0 W0 G a w hx hr
 obtain ⟨fn, body, h1, h2, h3⟩ := hf.at_
 rw [wpList, if_pos (wanted_rel hr.2.1 (onD_wanted ho hon))]
 obtain ⟨vs, he, hrel⟩ := call_run hr.2.1 (o := ⟨dst, .call c, ty, pos, af, g⟩) rfl h h1 h2 h3
 refine .inl ?_
 simp only [Oper.wp, he, Oper.upon]
 refine (k ops ho w0 G0 σ0 W0 G a w vs hx hr hrel).mono ?_
 rintro e w' ⟨v, rfl, h⟩
 exact h
theorem W_does {f : FuncId} {args : List DV} {d : DV} (hF : Does P f args σ (one d σ')) (k : EvD P dsts rest slots' σ' Q)
  (hs : putS slots dst d = slots' := by simp only [putS, List.set_cons_succ, List.set_cons_zero]; exact rfl) : EvC P f args dst dsts rest slots σ Q :=
 EvC_does hF (fun r σ' ⟨h1, h2⟩ => by subst h1; subst h2; rw [hs]; exact k)
theorem W_pure {f : FuncId} {args : List DV} {d : DV} (hF : Pure P f args d) (k : EvD P dsts rest slots' σ Q)
  (hs : putS slots dst d = slots' := by simp only [putS, List.set_cons_succ, List.set_cons_zero]; exact rfl) : EvC P f args dst dsts rest slots σ Q := W_does (hF σ) k hs
theorem W_con {f : FuncId} {args : List DV} {C : Prop} {d : DV} [hi : Con P f args C d] (k : EvD P dsts rest slots' σ Q) (hc : C)
  (hs : putS slots dst d = slots' := by simp only [putS, List.set_cons_succ, List.set_cons_zero]; exact rfl) : EvC P f args dst dsts rest slots σ Q := W_pure (hi.ok hc) k hs
theorem W_own {f : FuncId} {args : List DV} {xs : List DV} {e : TypeId} {st : Nat} (hF : PureOwn P f args xs e st) (k : EvD P dsts rest slots' ⟨σ.rows ++ [some ⟨xs, e, st⟩], σ.boxes, σ.maps⟩ Q)
  (hs : putS slots dst (.row σ.rows.length xs.length) = slots' := by simp only [go_sem]; exact rfl) : EvC P f args dst dsts rest slots σ Q := W_does (hF σ) k hs
theorem W_conOwn {f : FuncId} {args : List DV} {C : Prop} {xs : List DV} {e : TypeId} {st : Nat} [hi : ConOwn P f args C xs e st] (k : EvD P dsts rest slots' σ' Q) (hc : C)
  (hs : putS slots dst (.row σ.rows.length xs.length) = slots' := by simp only [go_sem]; exact rfl)
  (hσ : (⟨σ.rows ++ [some ⟨xs, e, st⟩], σ.boxes, σ.maps⟩ : Store) = σ' := by (try simp only [List.append_assoc, List.cons_append, List.nil_append]) <;> exact rfl) : EvC P f args dst dsts rest slots σ Q := W_own (hi.ok hc) (hσ ▸ k) hs
theorem W_conApp {f : FuncId} {args : List DV} {id len e' st' : Nat} {xs : List DV} {C : Prop} {ys : List DV} {e : TypeId} {st room : Nat} [hi : ConApp P f args C ys e st room] (k : EvD P dsts rest slots' σ' Q) (hc : C) (hl : xs.length ≤ room)
  (hR : σ.rows[id]? = some (some ⟨xs, e', st'⟩) := by (try simp only [app_get, app_get0, List.getElem?_cons_succ, List.getElem?_cons_zero]) <;> exact rfl) (hx : len = xs.length := by first | rfl | (simp only [go_sem]; done) | (simp only [go_sem]; omega)) (he : e' = e := by rfl) (hst : st' = st := by rfl)
  (hs : putS slots dst (.row id (len + ys.length)) = slots' := by simp only [go_sem]; exact rfl)
  (hσ : (⟨σ.rows.set id (some ⟨xs ++ ys, e, st⟩), σ.boxes, σ.maps⟩ : Store) = σ' := by (try simp only [app_set, app_set0, List.set_cons_succ, List.set_cons_zero, List.nil_append, List.cons_append, List.append_assoc]) <;> exact rfl) : EvC P f (.row id len :: args) dst dsts rest slots σ Q := by
 subst hx; subst hσ; subst hs; subst he; subst hst
 exact EvC_does (hi.ok hc σ id xs hR hl) (fun r σ' ⟨h1, h2⟩ => by subst h1; subst h2; exact k)

def Other (a b : List DV) : Prop := a = a ∨ b = b
theorem Other_same (a : List DV) : Other a a := .inl rfl
theorem Other_any (a b : List DV) : Other a b := .inl rfl
theorem W_weak {f : FuncId} {args args' : List DV} (k : EvC P f args' dst dsts rest slots σ Q)
  (hle : weakL args = args' := by simp only [weakL, List.map_cons, List.map_nil, weakD_slt, weakD_sl, weakD_int, weakD_bool, weakD_str, weakD_agg, weakD_row, weakD_ptr, weakD_cp, weakD_rp, weakD_nilp, weakD_fn, weakD_mp, weakD_it, weakD_cm, weakD_undef]; exact rfl)
  (hne : Other args args' := by (fail_if_success with_reducible exact Other_same _); exact Other_any _ _) : EvC P f args dst dsts rest slots σ Q := by
 subst hle
 intro ops ho w0 G0 σ0 W0 G a w vs hx hr hrel
 exact k ops ho w0 G0 σ0 W0 G a w vs hx hr (LeL_weak _ _ _ _ _ hrel)

/-! ### guards and tests that part the way -/
theorem bset {t : Nat} {b : Bool} (h : slots.getD t .undef = .bool b) : slots.set t (.bool b) = slots := by
 rw [List.getD_eq_getElem?_getD] at h
 cases hq : slots[t]? with
 | none => rw [hq] at h; simp at h
 | some d =>
  rw [hq] at h
  simp only [Option.getD_some] at h
  subst h
  obtain ⟨hl, he⟩ := List.getElem?_eq_some_iff.1 hq
  rw [← he]
  exact List.set_getElem_self hl
theorem W_split {b : Bool} {s1 s2 : List DV} {t : Nat} (hv : slots.getD t .undef = .bool b) (h1 : slots.set t (.bool true) = s1) (h2 : slots.set t (.bool false) = s2) (k1 : b = true → EvD P dsts l s1 σ Q) (k2 : b = false → EvD P dsts l s2 σ Q) : EvD P dsts l slots σ Q := by
 cases b
 ·rw [← bset hv, h2]; exact k2 rfl
 ·rw [← bset hv, h1]; exact k1 rfl
theorem notD (p : Prop) [Decidable p] : (!decide p) = decide (¬p) := by by_cases h : p <;> simp [h]
theorem W_grdP {b : Bool} {p : Prop} [Decidable p] {s1 s2 : List DV} {j t : Nat} {want : Bool} (k1 : p → EvD P dsts (⟨dst, op, ty, pos, af, some (j, want)⟩ :: rest) s1 σ Q) (k2 : ¬p → EvD P dsts (⟨dst, op, ty, pos, af, some (j, want)⟩ :: rest) s2 σ Q)
  (hj : dsts.getD j none = some t := by simp only [List.getD_cons_succ, List.getD_cons_zero]; exact rfl)
  (hv : slots.getD t .undef = .bool b := by simp only [List.getD_cons_succ, List.getD_cons_zero]; exact rfl) (hb : b = decide p := by first | with_reducible exact rfl | with_reducible exact notD _)
  (h1 : slots.set t (.bool true) = s1 := by simp only [List.set_cons_succ, List.set_cons_zero]; exact rfl)
  (h2 : slots.set t (.bool false) = s2 := by simp only [List.set_cons_succ, List.set_cons_zero]; exact rfl) : EvD P dsts (⟨dst, op, ty, pos, af, some (j, want)⟩ :: rest) slots σ Q :=
 W_split (hb ▸ hv) h1 h2 (fun h => k1 (of_decide_eq_true h)) (fun h => k2 (of_decide_eq_false h))
def Marked (b : Bool) : Prop := b = b
theorem Marked_t : Marked true := rfl
theorem Marked_f : Marked false := rfl
theorem Marked_any (b : Bool) : Marked b := rfl
theorem W_grdB {b : Bool} {s1 s2 : List DV} {j t : Nat} {want : Bool} (k1 : b = true → EvD P dsts (⟨dst, op, ty, pos, af, some (j, want)⟩ :: rest) s1 σ Q) (k2 : b = false → EvD P dsts (⟨dst, op, ty, pos, af, some (j, want)⟩ :: rest) s2 σ Q)
  (hj : dsts.getD j none = some t := by simp only [List.getD_cons_succ, List.getD_cons_zero]; exact rfl)
  (hv : slots.getD t .undef = .bool b := by simp only [List.getD_cons_succ, List.getD_cons_zero]; exact rfl)
  (hm : Marked b := by (fail_if_success with_reducible exact Marked_t); (fail_if_success with_reducible exact Marked_f); exact Marked_any _)
  (h1 : slots.set t (.bool true) = s1 := by simp only [List.set_cons_succ, List.set_cons_zero]; exact rfl)
  (h2 : slots.set t (.bool false) = s2 := by simp only [List.set_cons_succ, List.set_cons_zero]; exact rfl) : EvD P dsts (⟨dst, op, ty, pos, af, some (j, want)⟩ :: rest) slots σ Q :=
 W_split hv h1 h2 k1 k2
theorem W_grdY {b : Bool} {p : Prop} [Decidable p] {s1 : List DV} {j t : Nat} {want : Bool} (k1 : EvD P dsts (⟨dst, op, ty, pos, af, some (j, want)⟩ :: rest) s1 σ Q)
  (hj : dsts.getD j none = some t := by simp only [List.getD_cons_succ, List.getD_cons_zero]; exact rfl)
  (hv : slots.getD t .undef = .bool b := by simp only [List.getD_cons_succ, List.getD_cons_zero]; exact rfl) (hb : b = decide p := by first | with_reducible exact rfl | with_reducible exact notD _) (hp : p := by first | assumption | omega | exact fun hq => hq (by assumption))
  (h1 : slots.set t (.bool true) = s1 := by simp only [List.set_cons_succ, List.set_cons_zero]; exact rfl) : EvD P dsts (⟨dst, op, ty, pos, af, some (j, want)⟩ :: rest) slots σ Q :=
 W_split (hb ▸ hv) h1 rfl (fun _ => k1) (fun h => absurd hp (of_decide_eq_false h))
theorem W_grdN {b : Bool} {p : Prop} [Decidable p] {s1 : List DV} {j t : Nat} {want : Bool} (k1 : EvD P dsts (⟨dst, op, ty, pos, af, some (j, want)⟩ :: rest) s1 σ Q)
  (hj : dsts.getD j none = some t := by simp only [List.getD_cons_succ, List.getD_cons_zero]; exact rfl)
  (hv : slots.getD t .undef = .bool b := by simp only [List.getD_cons_succ, List.getD_cons_zero]; exact rfl) (hb : b = decide p := by first | with_reducible exact rfl | with_reducible exact notD _) (hp : ¬p := by first | assumption | omega | exact fun hq => hq (by assumption))
  (h1 : slots.set t (.bool false) = s1 := by simp only [List.set_cons_succ, List.set_cons_zero]; exact rfl) : EvD P dsts (⟨dst, op, ty, pos, af, some (j, want)⟩ :: rest) slots σ Q :=
 W_split (hb ▸ hv) rfl h1 (fun h => absurd (of_decide_eq_true h) hp) (fun _ => k1)
theorem W_ifT {c : Operand} {x y : Code} (k : Ev P x ⟨slots, σ⟩ Q) (hc : get slots c = .bool true := by simp only [Val.get, List.getD_cons_succ, List.getD_cons_zero, Bool.not_true, Bool.not_false] <;> fail) : Ev P (.cond c x y) ⟨slots, σ⟩ Q := Ev_cond hc (fun _ => k) (fun h => by cases h)
theorem W_ifF {c : Operand} {x y : Code} (k : Ev P y ⟨slots, σ⟩ Q) (hc : get slots c = .bool false := by simp only [Val.get, List.getD_cons_succ, List.getD_cons_zero, Bool.not_true, Bool.not_false] <;> fail) : Ev P (.cond c x y) ⟨slots, σ⟩ Q := Ev_cond hc (fun h => by cases h) (fun _ => k)
theorem W_ifY {b : Bool} {p : Prop} [Decidable p] {c : Operand} {x y : Code} (k : Ev P x ⟨slots, σ⟩ Q) (hc : get slots c = .bool b := by simp only [Val.get, List.getD_cons_succ, List.getD_cons_zero]; exact rfl) (hb : b = decide p := by first | with_reducible exact rfl | with_reducible exact notD _) (hp : p := by first | assumption | omega | exact fun hq => hq (by assumption)) : Ev P (.cond c x y) ⟨slots, σ⟩ Q := Ev_cond (hb ▸ hc) (fun _ => k) (fun h => absurd hp (of_decide_eq_false h))
theorem W_ifN {b : Bool} {p : Prop} [Decidable p] {c : Operand} {x y : Code} (k : Ev P y ⟨slots, σ⟩ Q) (hc : get slots c = .bool b := by simp only [Val.get, List.getD_cons_succ, List.getD_cons_zero]; exact rfl) (hb : b = decide p := by first | with_reducible exact rfl | with_reducible exact notD _) (hp : ¬p := by first | assumption | omega | exact fun hq => hq (by assumption)) : Ev P (.cond c x y) ⟨slots, σ⟩ Q := Ev_cond (hb ▸ hc) (fun h => absurd (of_decide_eq_true h) hp) (fun _ => k)
theorem W_ifP {b : Bool} {p : Prop} [Decidable p] {c : Operand} {x y : Code} (k1 : p → Ev P x ⟨slots, σ⟩ Q) (k2 : ¬p → Ev P y ⟨slots, σ⟩ Q) (hc : get slots c = .bool b := by simp only [Val.get, List.getD_cons_succ, List.getD_cons_zero]; exact rfl) (hb : b = decide p := by first | with_reducible exact rfl | with_reducible exact notD _) : Ev P (.cond c x y) ⟨slots, σ⟩ Q := Ev_cond (hb ▸ hc) (fun h => k1 (of_decide_eq_true h)) (fun h => k2 (of_decide_eq_false h))
theorem W_ifB {b : Bool} {c : Operand} {x y : Code} (k1 : b = true → Ev P x ⟨slots, σ⟩ Q) (k2 : b = false → Ev P y ⟨slots, σ⟩ Q) (hc : get slots c = .bool b := by simp only [Val.get, List.getD_cons_succ, List.getD_cons_zero]; exact rfl) : Ev P (.cond c x y) ⟨slots, σ⟩ Q := Ev_cond hc k1 k2
theorem W_isnil (hT : TOK P T) {t : Nat} {tt t2 e : TypeId} {x : Operand} {xs : List DV} {s : Bool → List DV} (k : ∀ b, (b = true → xs = []) → EvD P dsts rest (s b) σ Q)
  (hx : get slots x = .sl xs ∨ get slots x = .slt xs := by first | exact .inl rfl | exact .inr rfl) (hs : ∀ b, slots.set t (.bool b) = s b := by intro b; simp only [List.set_cons_succ, List.set_cons_zero]; exact rfl) (ht : (T tt).ty = .slice e := by rfl) :
  EvD P dsts (⟨some t, .binOp .eql tt x (.const (.slice none 0 0)) t2, ty, pos, af, none⟩ :: rest) slots σ Q := by
 refine EvD_eff (Effect.isnil hT rfl hx rfl ht) ?_
 rintro r σ' ⟨⟨b, rfl, hb⟩, rfl⟩
 simp only [St.put]
 rw [hs b]
 refine k b (fun h => ?_)
 subst h
 cases xs with
 | nil => rfl
 | cons x xs => have := hb (by simp); cases this

/-! ### ends of parts -/
theorem Q_thenN {y : Code} {s : St} (h : Ev P y s Q) : thenQ P y Q .normal s := h
theorem Q_thenE {y : Code} {s : St} {i : Nat} (h : Q (.exit i) s) : thenQ P y Q (.exit i) s := h
theorem Q_thenR {y : Code} {s : St} (h : Q .ret s) : thenQ P y Q .ret s := h
theorem Q_blkN {i : Nat} {s : St} (h : Q .normal s) : blockQ i Q .normal s := h
theorem Q_blkE {i : Nat} {s : St} (h : Q .normal s) : blockQ i Q (.exit i) s := by simp only [blockQ, if_true]; exact h
theorem Q_blkR {i : Nat} {s : St} (h : Q .ret s) : blockQ i Q .ret s := h

/-! ### what falls away -/
def Grew (σ σ' : Store) : Prop := (∃ r, σ'.rows = σ.rows ++ r) ∧ (∃ r, σ'.boxes = σ.boxes ++ r) ∧ ∃ r, σ'.maps = σ.maps ++ r
theorem Grew.out {σ σ' : Store} (h : Grew σ σ') : ∃ rs bs ms, σ' = ⟨σ.rows ++ rs, σ.boxes ++ bs, σ.maps ++ ms⟩ := by
 obtain ⟨⟨a, ha⟩, ⟨b, hb⟩, ⟨c, hc⟩⟩ := h
 exact ⟨a, b, c, by cases σ'; simp_all⟩

theorem Ext.trunc2 {w w' : World} {G G' : Gh} {r b m : Nat} (hx : Ext G σ w G' σ' w') (h1 : σ.rows.length ≤ r) (h2 : σ.boxes.length ≤ b) (h3 : σ.maps.length ≤ m) : Ext G σ w G' (σ'.trunc r b m) w' := by
 have e1 := hx.rowsLen
 have e2 := hx.boxesLen
 have e3 := hx.mapsLen
 refine ⟨hx.imm, by simp only [Store.trunc, List.length_take]; omega, by simp only [Store.trunc, List.length_take]; omega, by simp only [Store.trunc, List.length_take]; omega, fun id R' hid hR' => ?_, hx.boxB, hx.mapB, hx.dfr⟩
 simp only [Store.trunc, List.getElem?_take] at hR'
 rw [if_pos (by omega)] at hR'
 exact hx.rowV id R' hid hR'
def Leaves (σ : Store) (s : St) (t : List DV) (τ : Store) : Prop :=
 LeL s.slots t ∧ Grew τ s.σ ∧ (σ.rows.length ≤ τ.rows.length ∧ σ.boxes.length ≤ τ.boxes.length ∧ σ.maps.length ≤ τ.maps.length) ∧
  nameds τ.rows.length τ.boxes.length τ.maps.length t = true ∧ Named2 σ τ τ.rows.length τ.boxes.length τ.maps.length
theorem Ev_clean {c : Code} {s : St} {Q' : Exit → St → Prop} (h : Ev P c s Q') (hq : ∀ x s', Q' x s' → Q x s' ∨ ∃ t τ, Leaves s.σ s' t τ ∧ Q x ⟨t, τ⟩) : Ev P c s Q := by
 intro w0 G0 σ0 W0 G a w hx hr
 refine wp_mono (h w0 G s.σ w G a w (Ext.refl _ _ _) hr) ?_
 rintro x a' w' ⟨s', G', hq', hr', hx'⟩
 rcases hq x s' hq' with h1 | ⟨t, τ, ⟨hle, hg, hlen, hn, hN⟩, h1⟩
 ·exact ⟨s', G', h1, hr', hx.trans hx'⟩
 ·obtain ⟨rs, bs, ms, hσ⟩ := hg.out
  have htr : s'.σ.trunc τ.rows.length τ.boxes.length τ.maps.length = τ := by rw [hσ]; simp [Store.trunc]
  have e1 : τ.rows.length ≤ s'.σ.rows.length := by rw [hσ]; simp
  have e2 : τ.boxes.length ≤ s'.σ.boxes.length := by rw [hσ]; simp
  have e3 : τ.maps.length ≤ s'.σ.maps.length := by rw [hσ]; simp
  have hx2 := hx'.trunc2 hlen.1 hlen.2.1 hlen.2.2
  rw [htr] at hx2
  have hns := hr.2.2.names
  have hSt := hr'.2.2.trunc e1 e2 e3 (by
   rw [htr]
   refine ⟨fun id R h => ?_, fun id B h => ?_, fun id M h => ?_⟩
   ·rcases hN.rows id R h with h | h
    ·exact nameds_mono hlen.1 hlen.2.1 hlen.2.2 _ (hns.rows id R h)
    ·exact h
   ·rcases hN.boxes id B h with h | h
    ·exact nameds_mono hlen.1 hlen.2.1 hlen.2.2 _ (hns.boxes id B h)
    ·exact h
   ·rcases hN.maps id M h with h | h
    ·exact fun p hp => ⟨named_mono hlen.1 hlen.2.1 hlen.2.2 _ (hns.maps id M h p hp).1, named_mono hlen.1 hlen.2.1 hlen.2.2 _ (hns.maps id M h p hp).2⟩
    ·exact h)
  rw [htr] at hSt
  have hL := (hle _ _ _ _ hr'.2.1).trunc e1 e2 e3 hn
  rw [htr] at hL
  exact ⟨⟨t, τ⟩, G', h1, ⟨hr'.1, hL, hSt⟩, hx.trans hx2⟩

/-! ### loops -/
def upd (t : List DV) (l : List (Nat × DV)) : List DV := l.foldl (fun s p => s.set p.1 p.2) t
def killS (l : List Nat) (s : List DV) : List DV := l.foldl (fun s t => s.set t .undef) s
theorem upd_nil (t : List DV) : upd t [] = t := rfl
theorem upd_cons (t : List DV) (i : Nat) (d : DV) (l : List (Nat × DV)) : upd t ((i, d) :: l) = upd (t.set i d) l := rfl
theorem killS_nil (t : List DV) : killS [] t = t := rfl
theorem killS_cons (t : List DV) (i : Nat) (l : List Nat) : killS (i :: l) t = killS l (t.set i .undef) := rfl
def RoundG (s : Nat → List DV) (st : Nat → Store) (n i : Nat) (Q : Exit → St → Prop) : Exit → St → Prop
 | .normal, x => i < n ∧ ((LeL x.slots (s (i + 1)) ∧ x.σ = st (i + 1)) ∨ Leaves (st i) x (s (i + 1)) (st (i + 1)))
 | e, x => Q e x
theorem Q_rndE {s : Nat → List DV} {st : Nat → Store} {n i j : Nat} {x : St} (h : Q (.exit j) x) : RoundG s st n i Q (.exit j) x := h
theorem Q_rndR {s : Nat → List DV} {st : Nat → Store} {n i : Nat} {x : St} (h : Q .ret x) : RoundG s st n i Q .ret x := h
theorem Q_rndN {s : Nat → List DV} {st : Nat → Store} {n i : Nat} (hle : LeL slots (s (i + 1))) (hi : i < n) (hσ : σ = st (i + 1)) : RoundG s st n i Q .normal ⟨slots, σ⟩ := ⟨hi, .inl ⟨hle, hσ⟩⟩
theorem Q_rndG {s : Nat → List DV} {st : Nat → Store} {n i : Nat} (hi : i < n) (h : Leaves (st i) ⟨slots, σ⟩ (s (i + 1)) (st (i + 1))) : RoundG s st n i Q .normal ⟨slots, σ⟩ := ⟨hi, .inr h⟩
theorem Ev_lp {c : Code} (n : Nat) (u : Nat → List (Nat × DV)) (st : Nat → Store) (kill : List Nat) {t0 : List DV} {s : Nat → List DV}
  (hle : LeL slots (s 0)) (h0 : σ = st 0) (h : ∀ i, i ≤ n → Ev P c ⟨s i, st i⟩ (RoundG s st n i Q))
  (hk : killS kill slots = t0 := by simp only [killS_cons, killS_nil, List.set_cons_succ, List.set_cons_zero]; exact rfl)
  (hu : ∀ i, upd t0 (u i) = s i := by intro i; simp only [upd_cons, upd_nil, List.set_cons_succ, List.set_cons_zero]; exact rfl) : Ev P (.loop c) ⟨slots, σ⟩ Q := by
 refine Ev_iter (fun i t τ => t = s i ∧ τ = st i) n hle ⟨rfl, h0⟩ ?_
 rintro i _ _ hi ⟨rfl, rfl⟩
 refine Ev_clean (h i hi) ?_
 rintro x s' hq
 cases x with
 | normal =>
  obtain ⟨h1, ⟨h2, h3⟩ | h2⟩ := hq
  ·exact .inl ⟨h1, _, h2, rfl, h3⟩
  ·exact .inr ⟨_, _, h2, h1, _, LeL.refl _, rfl, rfl⟩
 | _ => exact .inl hq
end
end Go.Val
end

section
namespace Go.Val
open Go.RowKit
set_option linter.unusedSimpArgs false
set_option linter.unusedVariables false

mutual
def frzA (id : Nat) (xs : List DV) : DV → DV
 | .row i len => if i = id ∧ len = xs.length then .sl xs else .row i len
 | .agg cs => .agg (frzL id xs cs)
 | .tup cs => .tup (frzL id xs cs)
 | d => d
def frzL (id : Nat) (xs : List DV) : List DV → List DV
 | [] => []
 | c :: cs => frzA id xs c :: frzL id xs cs
end
theorem frzL_map (id : Nat) (xs : List DV) : ∀ cs, frzL id xs cs = cs.map (frzA id xs)
 | [] => by simp [frzL]
 | c :: cs => by simp [frzL, frzL_map id xs cs]

section
variable {P : Program} {T : TypeId → TI} {w0 : World} {G : Gh} {σ : Store} {w : World}

theorem StoreRel.frzA (hS : StoreRel w0 G σ w) {id : Nat} {R : Row} (hR : σ.rows[id]? = some (some R)) :
  ∃ G', StoreRel w0 G' ⟨σ.rows.set id none, σ.boxes, σ.maps⟩ w ∧ Ext G σ w G' ⟨σ.rows.set id none, σ.boxes, σ.maps⟩ w ∧ (∀ d v, RelV G σ w d v → RelV G' ⟨σ.rows.set id none, σ.boxes, σ.maps⟩ w (frzA id R.xs d) v) := by
 obtain ⟨G', h1, h2, h3⟩ := hS.frzS hR
 refine ⟨G', h1, h2, fun d v hd => ?_⟩
 induction hd with
 | agg cs vs hl _ ih =>
  rw [Val.frzA, frzL_map]
  refine .agg _ _ (by simpa using hl) (fun i c v hc hv => ?_)
  rw [List.getElem?_map] at hc
  cases hq : cs[i]? with
  | none => rw [hq] at hc; simp at hc
  | some c0 =>
   rw [hq] at hc
   simp only [Option.map_some, Option.some.injEq] at hc
   subst hc
   exact ih i c0 v hq hv
 | tup cs vs hl _ ih =>
  rw [Val.frzA, frzL_map]
  refine .tup _ _ (by simpa using hl) (fun i c v hc hv => ?_)
  rw [List.getElem?_map] at hc
  cases hq : cs[i]? with
  | none => rw [hq] at hc; simp at hc
  | some c0 =>
   rw [hq] at hc
   simp only [Option.map_some, Option.some.injEq] at hc
   subst hc
   exact ih i c0 v hq hv
 | row i len v hid hle h =>
  have := h3 (.row i len) v (.row i len v hid hle h)
  simpa [Val.frzA, frz] using this
 | undef v => exact .undef v
 | int k n => exact .int k n
 | bool b => exact .bool b
 | str s => exact .str s
 | sl xs A n c st b o vs a1 a2 a3 a4 a5 a6 _ => exact (RelV.sl xs A n c st b o vs a1 a2 a3 a4 a5 a6).ext h2
 | slt xs A n st b o vs a1 a3 a4 a5 a6 _ => exact (RelV.slt xs A n st b o vs a1 a3 a4 a5 a6).ext h2
 | ptr b off hb => exact (RelV.ptr b off hb).ext h2
 | cp cs b o vs a1 a2 a3 _ => exact (RelV.cp cs b o vs a1 a2 a3).ext h2
 | rp i l j o v a1 a2 a3 => exact (RelV.rp i l j o v a1 a2 a3).ext h2
 | nilp => exact .nilp
 | fn f fs cs us vs a1 a2 a3 a4 _ _ => exact (RelV.fn f fs cs us vs a1 a2 a3 a4).ext h2
 | nilfn => exact .nilfn
 | mp i hid => exact (RelV.mp i hid).ext h2
 | it i hid => exact (RelV.it i hid).ext h2
 | cm ks vs k clock es a1 a2 a3 a4 a5 a6 a7 a8 _ _ => exact (RelV.cm ks vs k clock es a1 a2 a3 a4 a5 a6 a7 a8).ext h2

inductive FrzTo (n : Nat) : Store → DV → DV → Prop
 | done {σ : Store} {d : DV} : FrzTo n σ d d
 | le {σ : Store} {r r' d : DV} (hle : Le r r') (h : FrzTo n σ r' d) : FrzTo n σ r d
 | row {σ : Store} {r d : DV} (id : Nat) (R : Row) (hid : n ≤ id) (hR : σ.rows[id]? = some (some R)) (h : FrzTo n ⟨σ.rows.set id none, σ.boxes, σ.maps⟩ (frzA id R.xs r) d) : FrzTo n σ r d
def RP (σ : Store) (d : DV) : DV → Store → Prop := fun r σ' => FrzTo σ.rows.length σ' r d ∧ Grew σ σ'

theorem frzTo_run {σ0 σ' : Store} {G' : Gh} {w' : World} {r d : DV} {v : Value} (h : FrzTo σ0.rows.length σ' r d) (hg : Grew σ0 σ') (hS : StoreRel w0 G' σ' w') (hv : RelV G' σ' w' r v) :
  ∃ G2 σ2, StoreRel w0 G2 σ2 w' ∧ Ext G' σ' w' G2 σ2 w' ∧ RelV G2 σ2 w' d v ∧ Grew σ0 σ2 := by
 induction h generalizing G' with
 | done => exact ⟨G', _, hS, Ext.refl _ _ _, hv, hg⟩
 | le hle _ ih => exact ih hg hS (hle _ _ _ _ hv)
 | row id R hid hR _ ih =>
  obtain ⟨G1, h1, h2, h3⟩ := hS.frzA hR
  obtain ⟨⟨a, ha⟩, hb, hc⟩ := hg
  obtain ⟨G2, σ2, k1, k2, k3, k4⟩ := ih ⟨⟨a.set (id - σ0.rows.length) none, by simp only [ha]; rw [List.set_append_right _ _ hid]⟩, hb, hc⟩ h1 (h3 _ _ hv)
  exact ⟨G2, σ2, k1, h2.trans k2, k3, k4⟩

theorem Pure.of2 {f : FuncId} {args : List DV} {d : DV} (hd : d.named 0 0 0 = true) (h : ∀ σ, Does P f args σ (RP σ d)) : Pure P f args d := by
 refine Pure.of hd (fun σ => ?_)
 intro w0 G vs w hS hr
 refine (h σ w0 G vs w hS hr).mono ?_
 rintro e w' ⟨v, r, σ', G', he, ⟨hf, hg⟩, hS', hE, hv⟩
 obtain ⟨G2, σ2, k1, k2, k3, k4⟩ := frzTo_run hf hg hS' hv
 exact ⟨v, d, σ2, G2, he, ⟨rfl, k4.out⟩, k1, hE.trans k2, k3⟩

theorem Pure.go (hT : TOK P T) {f : FuncId} {fn : Func} {c : Code} {args : List DV} {d : DV} {rs : List ResultVar} {n : Nat} (slots : List DV) (hf : P.funcs[f]? = some fn)
  (h : ∀ σ, Ev P c ⟨slots, σ⟩ (RetQ T rs (RP σ d))) (hb : fn.body = some c := by rfl) (hn : fn.ntmps = n := by rfl) (hr : fn.results.toList = rs := by exact rfl)
  (hs : args ++ List.replicate (n - args.length) .undef = slots := by rfl)
  (hd : d.named 0 0 0 = true := by first | rfl | exact bytes_named _ _ _ _ | (simp only [DV.named, nameds, bytes_named, Bool.and_true, Bool.and_self]; done) | (simp only [go_sem, DV.named, nameds, bytes_named, Bool.and_true, Bool.and_self]; done)) : Pure P f args d :=
 Pure.of2 hd (fun σ => Does_body hT hf hb (by rw [hn, hs, hr]; exact h σ))
def RO (σ : Store) (xs : List DV) (e : TypeId) (st : Nat) : DV → Store → Prop := fun r σ' => ∃ id, σ.rows.length ≤ id ∧ r = .row id xs.length ∧ σ'.rows[id]? = some (some ⟨xs, e, st⟩) ∧ Grew σ σ'
theorem PureOwn.go (hT : TOK P T) {f : FuncId} {fn : Func} {c : Code} {args : List DV} {xs : List DV} {e : TypeId} {st : Nat} {rs : List ResultVar} {n : Nat} (slots : List DV) (hf : P.funcs[f]? = some fn)
  (h : ∀ σ, Ev P c ⟨slots, σ⟩ (RetQ T rs (RO σ xs e st))) (hb : fn.body = some c := by rfl) (hn : fn.ntmps = n := by rfl) (hr : fn.results.toList = rs := by exact rfl)
  (hs : args ++ List.replicate (n - args.length) .undef = slots := by rfl)
  (hd : nameds 0 0 0 xs = true := by first | rfl | exact bytes_named _ _ _ _ | (simp only [DV.named, nameds, bytes_named, Bool.and_true, Bool.and_self]; done) | (simp only [go_sem, DV.named, nameds, bytes_named, Bool.and_true, Bool.and_self]; done)) : PureOwn P f args xs e st :=
 fun σ => Does.own hd ((Does_body hT (R := RO σ xs e st) hf hb (by rw [hn, hs, hr]; exact h σ)).mono (fun r σ' ⟨id, h1, h2, h3, h4⟩ => ⟨id, h1, h2, h3, h4.out⟩))
theorem Does.go (hT : TOK P T) {f : FuncId} {fn : Func} {c : Code} {args : List DV} {R : DV → Store → Prop} {rs : List ResultVar} {n : Nat} (slots : List DV) (hf : P.funcs[f]? = some fn)
  (h : Ev P c ⟨slots, σ⟩ (RetQ T rs R)) (hb : fn.body = some c := by rfl) (hn : fn.ntmps = n := by rfl) (hr : fn.results.toList = rs := by exact rfl)
  (hs : args ++ List.replicate (n - args.length) .undef = slots := by rfl) : Does P f args σ R :=
 Does_body hT hf hb (by rw [hn, hs, hr]; exact h)

def RA (σ : Store) (id : Nat) (xs ys : List DV) (e : TypeId) (st : Nat) : DV → Store → Prop := fun r σ' => r = .row id (xs.length + ys.length) ∧ Grew { σ with rows := σ.rows.set id (some ⟨xs ++ ys, e, st⟩) } σ'
theorem PureApp.go (hT : TOK P T) {f : FuncId} {fn : Func} {c : Code} {args : List DV} {ys : List DV} {e : TypeId} {st room : Nat} {rs : List ResultVar} {n : Nat} (slots : Nat → Nat → List DV) (hf : P.funcs[f]? = some fn)
  (h : ∀ (σ : Store) id xs, σ.rows[id]? = some (some ⟨xs, e, st⟩) → xs.length ≤ room → Ev P c ⟨slots id xs.length, σ⟩ (RetQ T rs (RA σ id xs ys e st))) (hb : fn.body = some c := by rfl) (hn : fn.ntmps = n := by rfl) (hr : fn.results.toList = rs := by exact rfl)
  (hs : ∀ id len, (.row id len :: args) ++ List.replicate (n - (args.length + 1)) .undef = slots id len := by intro id len; rfl)
  (hd : nameds 0 0 0 ys = true := by first | rfl | exact bytes_named _ _ _ _ | (simp only [DV.named, nameds, bytes_named, Bool.and_true, Bool.and_self]; done) | (simp only [go_sem, DV.named, nameds, bytes_named, Bool.and_true, Bool.and_self]; done)) : PureApp P f args ys e st room := by
 intro σ id xs hR hroom
 have hbody := Does_body hT (args := .row id xs.length :: args) (σ := σ) (R := RA σ id xs ys e st) hf hb (by rw [hn, hr]; have := hs id xs.length; simp only [List.length_cons]; rw [this]; exact h σ id xs hR hroom)
 have hid := (List.getElem?_eq_some_iff.1 hR).1
 intro w0 G vs w hS hr0
 have hxs : nameds σ.rows.length σ.boxes.length σ.maps.length xs = true := RowRel.names hS hR
 refine (Does.clean hbody ?_ w0 G vs w hS hr0).mono ?_
 ·rintro r σ' ⟨rfl, hg⟩
  obtain ⟨rs', bs, ms, rfl⟩ := hg.out
  refine ⟨by simpa [DV.named] using hid, ⟨fun i R h => ?_, fun i B h => .inl ?_, fun i M h => .inl ?_⟩⟩
  ·simp only [Store.trunc] at h
   rw [List.take_append_of_le_length (by simp), List.take_of_length_le (by simp)] at h
   by_cases hi : id = i
   ·subst hi
    rw [List.getElem?_set_self hid] at h
    simp only [Option.some.injEq] at h
    subst h
    refine .inr ?_
    rw [nameds_append, hxs, Bool.true_and]
    exact nameds_mono (Nat.zero_le _) (Nat.zero_le _) (Nat.zero_le _) _ hd
   ·rw [List.getElem?_set_ne hi] at h
    exact .inl h
  ·simpa [Store.trunc] using h
  ·simpa [Store.trunc] using h
 ·rintro e' w' ⟨v, r, σ', G', he, ⟨σ2, ⟨rfl, hg⟩, rfl⟩, rest⟩
  obtain ⟨rs', bs, ms, rfl⟩ := hg.out
  refine ⟨v, _, _, G', he, ⟨rfl, ?_⟩, rest⟩
  simp only [Store.trunc]
  rw [List.take_append_of_le_length (by simp), List.take_of_length_le (by simp)]
  simp

/-! ### rows in an answer, or in what is handed on -/
mutual
def DV.rowIn : DV → Option (Nat × Nat)
 | .row i len => some (i, len)
 | .agg cs => rowInL cs
 | .tup cs => rowInL cs
 | _ => none
def rowInL : List DV → Option (Nat × Nat)
 | [] => none
 | c :: cs => match c.rowIn with
  | some p => some p
  | none => rowInL cs
end
mutual
def weakA : DV → DV
 | .slt xs => .sl xs
 | .agg cs => .agg (weakAL cs)
 | .tup cs => .tup (weakAL cs)
 | .undef => .undef
 | .int k n => .int k n
 | .bool b => .bool b
 | .str s => .str s
 | .sl xs => .sl xs
 | .row i l => .row i l
 | .ptr b o => .ptr b o
 | .cp cs => .cp cs
 | .rp a b c d => .rp a b c d
 | .nilp => .nilp
 | .fn f a b => .fn f a b
 | .nilfn => .nilfn
 | .mp i => .mp i
 | .it i => .it i
 | .cm a b => .cm a b
def weakAL : List DV → List DV
 | [] => []
 | c :: cs => weakA c :: weakAL cs
end
mutual
def hasSlt : DV → Bool
 | .slt _ => true
 | .agg cs => hasSltL cs
 | .tup cs => hasSltL cs
 | _ => false
def hasSltL : List DV → Bool
 | [] => false
 | c :: cs => hasSlt c || hasSltL cs
end
mutual
theorem Le_weakA : ∀ d, Le d (weakA d)
 | .slt xs => by rw [weakA]; exact Le.sl xs
 | .agg cs => by rw [weakA]; exact Le.agg (LeL_weakAL cs)
 | .tup cs => by rw [weakA]; exact Le.tup (LeL_weakAL cs)
 | .undef | .int _ _ | .bool _ | .str _ | .sl _ | .row _ _ | .ptr _ _ | .cp _ | .rp _ _ _ _ | .nilp | .fn _ _ _ | .nilfn | .mp _ | .it _ | .cm _ _ => by rw [weakA]; exact Le.refl _
theorem LeL_weakAL : ∀ cs, LeL cs (weakAL cs)
 | [] => LeL.nil
 | c :: cs => by rw [weakAL]; exact LeL.cons (Le_weakA c) (LeL_weakAL cs)
end
mutual
def frzAt (id l : Nat) (xs : List DV) : DV → DV
 | .row i len => if i = id ∧ len = l then .sl xs else .row i len
 | .agg cs => .agg (frzAtL id l xs cs)
 | .tup cs => .tup (frzAtL id l xs cs)
 | d => d
def frzAtL (id l : Nat) (xs : List DV) : List DV → List DV
 | [] => []
 | c :: cs => frzAt id l xs c :: frzAtL id l xs cs
end
mutual
theorem frzAt_eq (id : Nat) (xs : List DV) : ∀ d, frzAt id xs.length xs d = frzA id xs d
 | .row i len => by simp [frzAt, frzA]
 | .agg cs => by simp [frzAt, frzA, frzAtL_eq id xs cs]
 | .tup cs => by simp [frzAt, frzA, frzAtL_eq id xs cs]
 | .undef | .int _ _ | .bool _ | .str _ | .sl _ | .slt _ | .ptr _ _ | .cp _ | .rp _ _ _ _ | .nilp | .fn _ _ _ | .nilfn | .mp _ | .it _ | .cm _ _ => by simp [frzAt, frzA]
theorem frzAtL_eq (id : Nat) (xs : List DV) : ∀ cs, frzAtL id xs.length xs cs = frzL id xs cs
 | [] => by simp [frzAtL, frzL]
 | c :: cs => by simp [frzAtL, frzL, frzAt_eq id xs c, frzAtL_eq id xs cs]
end
theorem frzAtL_map (id : Nat) (xs : List DV) (cs : List DV) : frzAtL id xs.length xs cs = cs.map (frzA id xs) := by rw [frzAtL_eq, frzL_map]

def frzBox (id l : Nat) (xs : List DV) : Option Box → Option Box
 | some B => some ⟨B.ty, frzAtL id l xs B.cs⟩
 | none => none

theorem StoreRel.frzB {A B : List (Option Box)} (hS : StoreRel w0 G σ w) {id : Nat} {R : Row} (hR : σ.rows[id]? = some (some R)) (hb : σ.boxes = A ++ B) :
  ∃ G', StoreRel w0 G' ⟨σ.rows.set id none, A ++ B.map (frzBox id R.xs.length R.xs), σ.maps⟩ w ∧ Ext G σ w G' ⟨σ.rows.set id none, A ++ B.map (frzBox id R.xs.length R.xs), σ.maps⟩ w ∧
   (∀ d v, RelV G σ w d v → RelV G' ⟨σ.rows.set id none, A ++ B.map (frzBox id R.xs.length R.xs), σ.maps⟩ w (frzAt id R.xs.length R.xs d) v) := by
 obtain ⟨G', h1, h2, h3⟩ := hS.frzA hR
 have x : Ext G' ⟨σ.rows.set id none, σ.boxes, σ.maps⟩ w G' ⟨σ.rows.set id none, A ++ B.map (frzBox id R.xs.length R.xs), σ.maps⟩ w :=
  ⟨fun k hk => ⟨hk, rfl⟩, Nat.le_refl _, by simp [hb], Nat.le_refl _, fun i R' hi hR' => ⟨R', hR', rfl, Nat.le_refl _, fun _ => rfl⟩, fun _ _ => rfl, fun _ _ => rfl, fun k hk => ⟨hk, rfl⟩⟩
 refine ⟨G', ⟨h1.below, h1.lt, h1.trk, fun i R hR => (h1.rows i R hR).keep x rfl (fun _ hk => ⟨hk, rfl⟩), fun i B0 hB0 => ?_, fun i M hM => (h1.maps i M hM).keep x rfl (fun _ hk => ⟨hk, rfl⟩)⟩, h2.trans x, fun d v hd => by rw [frzAt_eq]; exact (h3 d v hd).ext x⟩
 rcases Nat.lt_or_ge i A.length with hi | hi
 ·have hB1 : σ.boxes[i]? = some (some B0) := by
   rw [hb, List.getElem?_append_left hi]
   simp only at hB0
   rwa [List.getElem?_append_left hi] at hB0
  exact (h1.boxes i B0 hB1).keep x rfl (fun _ hk => ⟨hk, rfl⟩)
 ·simp only at hB0
  rw [List.getElem?_append_right hi, List.getElem?_map] at hB0
  cases hq : B[i - A.length]? with
  | none => rw [hq] at hB0; simp at hB0
  | some ob =>
   rw [hq] at hB0
   cases ob with
   | none => simp [frzBox] at hB0
   | some B1 =>
    simp only [Option.map_some, frzBox, Option.some.injEq] at hB0
    subst hB0
    have hB1 : σ.boxes[i]? = some (some B1) := by rw [hb, List.getElem?_append_right hi]; exact hq
    obtain ⟨k1, arr, k2, k3⟩ := hS.boxes i B1 hB1
    obtain ⟨k4, arr', k5, k6⟩ := h1.boxes i B1 hB1
    have he : arr = arr' := by
     have hbx := h2.boxB i (List.getElem?_eq_some_iff.1 hB1).1
     rw [hbx, k2] at k5
     simp only [Option.some.injEq, Obj.cells.injEq] at k5
     exact k5.1
    subst he
    refine ⟨k4, arr, k5, ?_⟩
    simp only [frzAtL_map]
    refine ⟨by simpa using k3.1, fun j c v hc hv => ?_⟩
    rw [List.getElem?_map] at hc
    cases hq2 : B1.cs[j]? with
    | none => rw [hq2] at hc; simp at hc
    | some c0 =>
     rw [hq2] at hc
     simp only [Option.map_some, Option.some.injEq] at hc
     subst hc
     exact (h3 c0 v (k3.2 j c0 v hq2 hv)).ext x
section
variable {dsts : List (Option Tmp)} {rest : List Oper} {slots slots' : List DV} {Q : Exit → St → Prop} {dst : Option Tmp} {A B : List (Option Box)} {rows' : List (Option Row)} {B' : List (Option Box)}
theorem RelS.frzB {a : Act} {id : Nat} {R : Row} (hr : RelS w0 G ⟨slots, σ⟩ a w) (hR : σ.rows[id]? = some (some R)) (hb : σ.boxes = A ++ B) :
  ∃ G', RelS w0 G' ⟨frzAtL id R.xs.length R.xs slots, ⟨σ.rows.set id none, A ++ B.map (frzBox id R.xs.length R.xs), σ.maps⟩⟩ a w ∧ Ext G σ w G' ⟨σ.rows.set id none, A ++ B.map (frzBox id R.xs.length R.xs), σ.maps⟩ w ∧
   (∀ ds vs, RelL G σ w ds vs → RelL G' ⟨σ.rows.set id none, A ++ B.map (frzBox id R.xs.length R.xs), σ.maps⟩ w (frzAtL id R.xs.length R.xs ds) vs) := by
 obtain ⟨G', h1, h2, h3⟩ := hr.2.2.frzB hR hb
 have key : ∀ ds vs, RelL G σ w ds vs → RelL G' ⟨σ.rows.set id none, A ++ B.map (frzBox id R.xs.length R.xs), σ.maps⟩ w (frzAtL id R.xs.length R.xs ds) vs := by
  intro ds vs hd
  refine ⟨by simpa [frzAtL_map] using hd.1, fun i c v hc hv => ?_⟩
  rw [frzAtL_map, List.getElem?_map] at hc
  cases hq : ds[i]? with
  | none => rw [hq] at hc; simp at hc
  | some c0 =>
   rw [hq] at hc
   simp only [Option.map_some, Option.some.injEq] at hc
   subst hc
   have := h3 c0 v (hd.2 i c0 v hq hv)
   rwa [frzAt_eq] at this
 exact ⟨G', ⟨hr.1.ext h2, key _ _ hr.2.1, h1⟩, h2, key⟩

theorem W_frzArg {f : FuncId} {args args' : List DV} {id len : Nat} {R : Row} (k : EvC P f args' dst dsts rest slots' ⟨rows', A ++ B', σ.maps⟩ Q)
  (hi : rowInL args = some (id, len) := by simp only [go_sem]; exact rfl)
  (hR : σ.rows[id]? = some (some R) := by (try simp only [app_get, app_get0, List.getElem?_cons_succ, List.getElem?_cons_zero]) <;> exact rfl)
  (hl : R.xs.length = len := by first | rfl | (simp only [go_sem]; done) | (simp only [go_sem]; omega))
  (hb : σ.boxes = A ++ B := by first | rfl | exact (List.append_nil _).symm)
  (ha : frzAtL id len R.xs args = args' := by simp (disch := omega) only [frzAt, frzAtL, if_pos, if_neg, and_self, if_true]; exact rfl)
  (hs : frzAtL id len R.xs slots = slots' := by simp (disch := omega) only [frzAt, frzAtL, if_pos, if_neg, and_self, if_true]; exact rfl)
  (hB : B.map (frzBox id len R.xs) = B' := by simp (disch := omega) only [frzBox, List.map_cons, List.map_nil, frzAt, frzAtL, if_pos, if_neg, and_self, if_true]; exact rfl)
  (hr : σ.rows.set id none = rows' := by (try simp only [app_set, app_set0, List.set_cons_succ, List.set_cons_zero]) <;> exact rfl) : EvC P f args dst dsts rest slots σ Q := by
 subst hl; subst ha; subst hs; subst hB; subst hr
 intro ops ho w0 G0 σ0 W0 G a w vs hx hr hrel
 obtain ⟨G', h1, h2, h3⟩ := hr.frzB hR hb
 exact k ops ho w0 G0 σ0 W0 G' a w vs (hx.trans h2) h1 (h3 _ _ hrel)
def opRow (slots : List DV) : Op → Option (Nat × Nat)
 | .convert _ _ x => (get slots x).rowIn
 | .slice _ x _ _ _ => (get slots x).rowIn
 | .binOp _ _ x _ _ => (get slots x).rowIn
 | _ => none
theorem W_frzC {c : Code} (id : Nat) {R : Row} (k : Ev P c ⟨slots', ⟨rows', A ++ B', σ.maps⟩⟩ Q)
  (hR : σ.rows[id]? = some (some R) := by (try simp only [app_get, app_get0, List.getElem?_cons_succ, List.getElem?_cons_zero]) <;> exact rfl)
  (hb : σ.boxes = A ++ B := by first | rfl | exact (List.append_nil _).symm)
  (hs : frzAtL id R.xs.length R.xs slots = slots' := by simp (disch := omega) only [bytes_len, app_len, List.length_cons, List.length_nil, List.length_map, List.length_take, List.length_drop, frzAt, frzAtL, if_pos, if_neg, and_self, if_true]; exact rfl)
  (hB : B.map (frzBox id R.xs.length R.xs) = B' := by simp (disch := omega) only [frzBox, List.map_cons, List.map_nil, bytes_len, app_len, List.length_cons, List.length_nil, List.length_map, List.length_take, List.length_drop, frzAt, frzAtL, if_pos, if_neg, and_self, if_true]; exact rfl)
  (hr : σ.rows.set id none = rows' := by (try simp only [app_set, app_set0, List.set_cons_succ, List.set_cons_zero]) <;> exact rfl) : Ev P c ⟨slots, σ⟩ Q := by
 subst hs; subst hB; subst hr
 intro w0 G0 σ0 W0 G a w hx hr
 obtain ⟨G', h1, h2, h3⟩ := hr.frzB hR hb
 exact k w0 G0 σ0 W0 G' a w (hx.trans h2) h1
end

/-! ### returning -/
section
variable {rs : List ResultVar} {s : St} {C : Prop} {n : Nat} {d r r' : DV} {σ' : Store}
theorem R_ret {slots : List DV} {σ0 : Store} {d d' : DV} (k : FrzTo σ0.rows.length σ d' d) (hc : C) (h : resD T ⟨slots, σ⟩ rs = some (C, d') := by simp (disch := omega) only [go_sem, resD, resDs, resD1]; exact rfl)
  (hg : Grew σ0 σ := by exact ⟨by first | exact ⟨[], (List.append_nil _).symm⟩ | exact ⟨_, rfl⟩, by first | exact ⟨[], (List.append_nil _).symm⟩ | exact ⟨_, rfl⟩, by first | exact ⟨[], (List.append_nil _).symm⟩ | exact ⟨_, rfl⟩⟩) : RetQ T rs (RP σ0 d) .ret ⟨slots, σ⟩ := ⟨C, d', h, hc, k, hg⟩
theorem F_row {id len : Nat} {R : Row} (k : FrzTo n σ' r' d)
  (hi : r.rowIn = some (id, len) := by simp only [go_sem]; exact rfl)
  (hR : σ.rows[id]? = some (some R) := by (try simp only [app_get, app_get0, List.getElem?_cons_succ, List.getElem?_cons_zero]) <;> exact rfl)
  (hl : R.xs.length = len := by first | rfl | (simp only [go_sem]; done) | (simp only [go_sem]; omega))
  (hf : frzAt id len R.xs r = r' := by simp (disch := omega) only [frzAt, frzAtL, if_pos, if_neg, and_self, if_true]; exact rfl)
  (hσ : (⟨σ.rows.set id none, σ.boxes, σ.maps⟩ : Store) = σ' := by (try simp only [app_set, app_set0, List.set_cons_succ, List.set_cons_zero]) <;> exact rfl)
  (hn : n ≤ id := by omega) : FrzTo n σ r d := by
 subst hl; subst hσ
 rw [frzAt_eq] at hf
 subst hf
 exact .row id R hn hR k
theorem F_weak (k : FrzTo n σ r' d) (hh : hasSlt r = true := by simp only [hasSlt, hasSltL, Bool.or_true, Bool.true_or, Bool.false_or, Bool.or_false] <;> fail)
  (hw : weakA r = r' := by simp only [weakA, weakAL]; exact rfl) : FrzTo n σ r d := .le (hw ▸ Le_weakA r) k
theorem F_done (h : r = d) : FrzTo n σ r d := h ▸ .done
theorem R_app {slots : List DV} {σ0 : Store} {id len : Nat} {xs ys zs : List DV} {e : TypeId} {st : Nat} (hx : zs = xs ++ ys) (hc : C) (hl : len = xs.length + ys.length) (hg : ∀ ws, ws = zs → Grew { σ0 with rows := σ0.rows.set id (some ⟨ws, e, st⟩) } σ) (h : resD T ⟨slots, σ⟩ rs = some (C, .row id len) := by simp (disch := omega) only [go_sem, resD, resDs, resD1]; exact rfl) :
  RetQ T rs (RA σ0 id xs ys e st) .ret ⟨slots, σ⟩ := by
 subst hl
 exact ⟨C, _, h, hc, rfl, hg _ hx.symm⟩
theorem R_own {slots : List DV} {σ0 : Store} {id len : Nat} {xs ys : List DV} {e : TypeId} {st : Nat} (hx : ys = xs) (hc : C) (h : resD T ⟨slots, σ⟩ rs = some (C, .row id len) := by simp (disch := omega) only [go_sem, resD, resDs, resD1]; exact rfl)
  (hR : σ.rows[id]? = some (some ⟨ys, e, st⟩) := by (try simp only [app_get, app_get0, List.getElem?_cons_succ, List.getElem?_cons_zero]) <;> exact rfl)
  (hl : ys.length = len := by first | rfl | (simp only [go_sem]; done) | (simp only [go_sem]; omega))
  (hn : σ0.rows.length ≤ id := by omega)
  (hg : Grew σ0 σ := by exact ⟨by first | exact ⟨[], (List.append_nil _).symm⟩ | exact ⟨_, rfl⟩, by first | exact ⟨[], (List.append_nil _).symm⟩ | exact ⟨_, rfl⟩, by first | exact ⟨[], (List.append_nil _).symm⟩ | exact ⟨_, rfl⟩⟩) : RetQ T rs (RO σ0 xs e st) .ret ⟨slots, σ⟩ := by
 subst hx; subst hl
 exact ⟨C, _, h, hc, id, hn, rfl, hR, hg⟩
end
end
attribute [go_sem] DV.rowIn rowInL opRow frzAt frzAtL
end Go.Val
end

section
namespace Go.Val
open Go.RowKit
set_option linter.unusedSimpArgs false
set_option linter.unusedVariables false

def beN (w n : Nat) : List UInt8 := (List.range w).map fun k => UInt8.ofNat (n / 256 ^ (w - 1 - k))
def numN (l : List UInt8) : Nat := l.foldl (fun a b => 256 * a + b.toNat) 0
theorem beN_len (w n : Nat) : (beN w n).length = w := by simp [beN]
theorem beN_get (w n k : Nat) (h : k < w) : (beN w n)[k]? = some (UInt8.ofNat (n / 256 ^ (w - 1 - k))) := by simp [beN, h]
theorem beN_take_succ (w n k : Nat) (h : k < w) : (beN w n).take (k + 1) = (beN w n).take k ++ [UInt8.ofNat (n / 256 ^ (w - 1 - k))] := by
 rw [List.take_add_one, beN_get w n k h]; rfl
theorem beN_zero (n : Nat) : beN 0 n = [] := rfl
theorem beN_front (w n : Nat) : beN (w + 1) n = UInt8.ofNat (n / 256 ^ w) :: beN w n := by
 unfold beN
 rw [List.range_succ_eq_map, List.map_cons, List.map_map]
 congr 1
 apply List.map_congr_left
 intro k hk
 have := List.mem_range.1 hk
 simp only [Function.comp]
 congr 3
 omega
theorem beN_back (w n : Nat) : beN (w + 1) n = beN w (n / 256) ++ [UInt8.ofNat n] := by
 unfold beN
 rw [List.range_succ, List.map_append]
 congr 1
 ·apply List.map_congr_left
  intro k hk
  have := List.mem_range.1 hk
  rw [Nat.div_div_eq_div_mul]
  congr 2
  rw [show w + 1 - 1 - k = (w - 1 - k) + 1 by omega, Nat.pow_succ, Nat.mul_comm]
 ·simp
theorem numN_nil : numN [] = 0 := rfl
theorem numN_snoc (l : List UInt8) (b : UInt8) : numN (l ++ [b]) = 256 * numN l + b.toNat := by simp [numN]
theorem snoc_ind {α : Type} {p : List α → Prop} (h0 : p []) (h1 : ∀ l a, p l → p (l ++ [a])) : ∀ l, p l := by
 intro l
 rw [← List.reverse_reverse l]
 induction l.reverse with
 | nil => exact h0
 | cons a m ih => rw [List.reverse_cons]; exact h1 _ _ ih
theorem numN_lt (l : List UInt8) : numN l < 256 ^ l.length := by
 induction l using snoc_ind with
 | h0 => simp [numN]
 | h1 l b ih =>
  rw [numN_snoc, List.length_append, List.length_singleton, Nat.pow_succ]
  have := b.toNat_lt
  omega
theorem numN_le {l : List UInt8} {k m : Nat} (h : l.length ≤ k) (hm : 256 ^ k ≤ m := by decide) : numN l < m :=
 Nat.lt_of_lt_of_le (numN_lt l) (Nat.le_trans (Nat.pow_le_pow_right (by decide) h) hm)
theorem numN_take {l : List UInt8} {i : Nat} {c : UInt8} (h : l[i]? = some c) : numN (l.take (i + 1)) = 256 * numN (l.take i) + c.toNat := by
 rw [List.take_add_one, h]; exact numN_snoc _ _
theorem numN_beN (w n : Nat) : numN (beN w n) = n % 256 ^ w := by
 induction w generalizing n with
 | zero => simp [beN_zero, numN_nil, Nat.mod_one]
 | succ w ih =>
  rw [beN_back, numN_snoc, ih, Nat.pow_succ, Nat.mul_comm (256 ^ w) 256, Nat.mod_mul]
  simp only [UInt8.toNat_ofNat']
  omega
theorem beN_numN (l : List UInt8) : beN l.length (numN l) = l := by
 induction l using snoc_ind with
 | h0 => rfl
 | h1 l b ih =>
  rw [List.length_append, List.length_singleton, beN_back, numN_snoc]
  have := b.toNat_lt
  rw [show (256 * numN l + b.toNat) / 256 = numN l by omega, ih]
  congr 2
  apply UInt8.toNat.inj
  simp only [UInt8.toNat_ofNat']
  omega
theorem or_i64 {a c : Nat} (h : a < 36028797018963968) (hc : c < 256) : bitsD .or .i64 ((256 * a : Nat) : Int) (c : Int) = ((256 * a + c : Nat) : Int) := by
 have e : 256 * a + c = (256 * a) ||| c := by
  have := Nat.shiftLeft_add_eq_or_of_lt (b := c) (i := 8) (by omega) a
  rw [Nat.shiftLeft_eq] at this
  rw [Nat.mul_comm] at this
  exact this
 show IntKind.i64.wrap (((BitVec.ofInt 64 ((256 * a : Nat) : Int) ||| BitVec.ofInt 64 (c : Int)) : BitVec 64).toNat : Int) = _
 have h1 : BitVec.ofInt 64 ((256 * a : Nat) : Int) = BitVec.ofNat 64 (256 * a) := BitVec.ofInt_natCast ..
 have h2 : BitVec.ofInt 64 ((c : Nat) : Int) = BitVec.ofNat 64 c := BitVec.ofInt_natCast ..
 rw [h1, h2, BitVec.toNat_or, BitVec.toNat_ofNat, BitVec.toNat_ofNat, Nat.mod_eq_of_lt (by omega), Nat.mod_eq_of_lt (by omega), ← e]
 exact wrap_i64_id (by omega) (by omega)
theorem u8_nat (n : Nat) : IntKind.u8.wrap (n : Int) = ((UInt8.ofNat n).toNat : Int) := by
 rw [IntKind.wrap_u8', UInt8.toNat_ofNat']; omega
theorem fdiv_nat (a b : Nat) : Int.fdiv (a : Int) (b : Int) = ((a / b : Nat) : Int) := by
 rw [Int.fdiv_eq_ediv_of_nonneg _ (by omega)]; rfl
theorem tmod256 (m : Nat) : Int.tmod (m : Int) 256 = ((m % 256 : Nat) : Int) := tmod_nat m 256
theorem tdiv256 (m : Nat) : Int.tdiv (m : Int) 256 = ((m / 256 : Nat) : Int) := tdiv_nat m 256
theorem set_same {α : Type} {l : List α} {i : Nat} {x : α} (h : l[i]? = some x) : l.set i x = l := by
 obtain ⟨hl, rfl⟩ := List.getElem?_eq_some_iff.1 h
 exact List.set_getElem_self hl
theorem ofNat_mod (m : Nat) : UInt8.ofNat (m % 256) = UInt8.ofNat m := by
 apply UInt8.toNat.inj; simp only [UInt8.toNat_ofNat']; omega
theorem or8 {x c : Int} (h0 : 0 ≤ x) (h1 : x < 36028797018963968) (h2 : 0 ≤ c) (h3 : c < 256) : bitsD .or .i64 (x * 2 ^ 8) c = 256 * x + c := by
 have := or_i64 (a := x.toNat) (c := c.toNat) (by omega) (by omega)
 rw [show ((256 * x.toNat : Nat) : Int) = x * 2 ^ 8 by omega, show ((c.toNat : Nat) : Int) = c by omega] at this
 rw [this]; omega
theorem bytes_nil : bytes [] = [] := rfl
theorem shr_byte {n k : Nat} {x : Int} (hx : x = k) (hk : k ≤ 8) : IntKind.u8.wrap ((n : Int).fdiv (2 ^ (if (8 * x).toNat ≤ 64 then (8 * x).toNat else 64))) = ((UInt8.ofNat (n / 256 ^ k)).toNat : Int) := by
 subst hx
 have e : (8 * (k : Int)).toNat = 8 * k := by omega
 rw [e, if_pos (by omega), show ((2 : Int) ^ (8 * k)) = ((256 ^ k : Nat) : Int) by rw [Int.pow_mul, Int.natCast_pow]; rfl, fdiv_nat, u8_nat]
theorem Grew_refl (σ : Store) : Grew σ σ := ⟨⟨[], (List.append_nil _).symm⟩, ⟨[], (List.append_nil _).symm⟩, ⟨[], (List.append_nil _).symm⟩⟩
attribute [go_sem] beN_len
end Go.Val
end

section
namespace Go.Val
open Go.RowKit
set_option linter.unusedSimpArgs false
set_option linter.unusedVariables false
section
variable {P : Program} {T : TypeId → TI} {dsts : List (Option Tmp)} {rest : List Oper} {slots slots' : List DV} {σ σ' : Store} {Q : Exit → St → Prop}
theorem bytes_unbytes {xs : List DV} (h : xs.all DV.isByte = true) : bytes (unbytes xs) = xs := by
 induction xs with
 | nil => rfl
 | cons x xs ih =>
  rw [List.all_cons, Bool.and_eq_true] at h
  have h1 := ih h.2
  simp only [bytes, unbytes, List.map_cons] at h1 ⊢
  rw [h1]
  congr 1
  have h2 := h.1
  unfold DV.isByte at h2
  split at h2
  ·rename_i n
   have := of_decide_eq_true h2
   simp only [DV.byte, DV.int.injEq, true_and, UInt8.toNat_ofNat']
   omega
  ·cases h2
theorem W_lit (hT : TOK P T) {t1 t2 : Tmp} {t e : TypeId} {len : Nat} {parts : Array (Nat × Operand)} {ty ty2 : TypeId} {pos pos2 : String} {af af2 : Array Edge} {C : Prop} {xs : List DV} {bs : List UInt8} {st : Nat}
  (k : EvD P dsts rest slots' σ' Q) (hc : C)
  (h : newD T σ slots (.buildSlice t len parts) = some (C, .slt xs) := by simp (disch := omega) only [go_sem]; with_reducible exact rfl)
  (hs : (slots.set t1 .undef).set t2 (.row σ.rows.length xs.length) = slots' := by simp only [List.set_cons_succ, List.set_cons_zero, List.length_cons, List.length_nil, Nat.zero_add, Nat.reduceAdd]; exact rfl)
  (ht : (T t).ty = .slice e := by rfl) (he : (T e).ty = .int .u8 := by rfl)
  (hall : xs.all DV.isByte = true := by rfl) (hbs : unbytes xs = bs := by simp only [unbytes, List.map_cons, List.map_nil, DV.byte, Int.reduceToNat, UInt8.reduceOfNat]; exact rfl)
  (hst : (T e).size = st := by simp only [go_sem]; exact rfl)
  (hσ : (⟨σ.rows ++ [some ⟨bytes bs, e, st⟩], σ.boxes, σ.maps⟩ : Store) = σ' := by (try simp only [List.append_assoc, List.cons_append, List.nil_append]) <;> exact rfl)
  (h1' : Nat.ble (t1 + 1) slots.length = true := by rfl) :
  EvD P dsts (⟨some t1, .buildSlice t len parts, ty, pos, af, none⟩ :: ⟨some t2, .convert t t (.tmp t1), ty2, pos2, af2, none⟩ :: rest) slots σ Q := by
 have h1 : t1 < slots.length := Nat.le_of_ble_eq_true h1'
 subst hs; subst hσ; subst hst; subst hbs
 rw [bytes_unbytes hall] at k
 intro ops ho w0 G0 σ0 W0 G a w hx hr
 unfold newD at h
 simp only [ht] at h
 split at h
 ·rename_i C' cs hf
  simp only [Option.some.injEq, Prod.mk.injEq, DV.slt.injEq] at h
  obtain ⟨rfl, hxs⟩ := h
  obtain ⟨hne, hsz, hs0, hzc, hfl, hst, hc⟩ := hc
  rw [hxs] at hfl hst
  have hxl : xs.length = len := by rw [← hxs]; simp [groupsD]
  obtain ⟨rs, hrs, hrel⟩ := build_run hT ht hr hf hne hsz hzc hc
  have hta : t1 < a.tmps.size := by
   have h2 := hr.2.1.1
   simp only [Array.length_toList] at h2
   rw [h2]
   exact h1
  rw [wpList, if_pos (by rfl)]
  refine .inl ?_
  have r1 : (execOp a.eval ⟨some t1, .buildSlice t len parts, ty, pos, af, none⟩).run P w = .ok (.value (.slice (some ⟨w.heap.size, 0, none⟩) len len)) (w.alloc (.cells rs e)) := by
   simp only [execOp, Sem.run_bind, hrs, Result.andThen_ok]
   rfl
  simp only [Oper.wp, r1, Oper.upon]
  rw [wpList, if_pos (by rfl)]
  refine .inl ?_
  have ev : (a.put (some t1) (.slice (some ⟨w.heap.size, 0, none⟩) len len)).eval (.tmp t1) = .slice (some ⟨w.heap.size, 0, none⟩) len len := by
   simp [Act.put, Act.eval, hta]
  have r2 : (execOp (a.put (some t1) (.slice (some ⟨w.heap.size, 0, none⟩) len len)).eval ⟨some t2, .convert t t (.tmp t1), ty2, pos2, af2, none⟩).run P (w.alloc (.cells rs e)) = .ok (.value (.slice (some ⟨w.heap.size, 0, none⟩) len len)) (w.alloc (.cells rs e (rs.size, rs.size + 1))) := by
   simp only [execOp, ev, Sem.run_bind, Go.Lib.run_convert_bytes_const w t e rs len len (TOK.undP_slice hT ht) (TOK.undP_int hT he), Result.andThen_ok]
   rfl
  simp only [Oper.wp, r2, Oper.upon]
  have hcs : cs.length = len * (T e).size := by
   rw [← hfl, flat_len hst, hxl]
  have hrz : rs.size = cs.length := by have := hrel.1; simpa using this
  obtain ⟨G', k1, k2, k3⟩ := hr.2.2.row (xs := xs) (e := e) (st := (T e).size) (c := len) (arr := rs) (fr := (rs.size, rs.size + 1)) hs0 hst (by omega) (by rw [hrz, hcs])
   (fun i d v hd hv => by rw [hfl] at hd; exact hrel.2 i d v hd (by rw [Array.getElem?_toList]; exact hv)) rfl (fun k hk h => by have := h.1; simp only at this; omega)
  refine k ops ho w0 G0 σ0 W0 G' _ _ (hx.trans k2) ⟨by simp only [put_defers]; exact hr.1.ext k2, ?_, k1⟩
  have hv : RelV G' { σ with rows := σ.rows ++ [some ⟨xs, e, (T e).size⟩] } (w.alloc (.cells rs e (rs.size, rs.size + 1))) (.row σ.rows.length xs.length) (.slice (some ⟨w.heap.size, 0, none⟩) len len) := by
   refine .row _ _ _ (by simp) (fun R hR => by simp at hR; subst hR; exact Nat.le_refl _) (fun R hR _ => by rw [k3, hxl])
  exact RelL_put (RelL_put (hr.2.1.ext k2) (.undef _) (some t1)) hv (some t2)
 ·simp at h

end
end Go.Val
end

section
namespace Go.Val
open Go.RowKit
set_option linter.unusedSimpArgs false
set_option linter.unusedVariables false

def EB (bx : List (Option Box)) (mp : List (Option (List (DV × DV)))) : Store → Prop := fun τ => τ.boxes = bx ∧ τ.maps = mp
def isWr (own : List FuncId) (o : Oper) : Bool :=
 match o.op with
 | .call c =>
  match c.callee with
  | .builtin .append => match o.dst with | some t => !own.contains (100000 + t) | none => true
  | .value (.func f) => own.contains f
  | _ => false
 | .makeSlice _ _ _ => !own.contains 99999
 | .load _ _ => own.contains 99998
 | .indexAddr _ _ _ => own.contains 99997
 | .alloc _ | .box _ _ | .store _ _ _ => true
 | _ => false
def flagsOf (own : List FuncId) (l : List Oper) : List Bool := l.map (isWr own)

section
variable {P : Program} {T : TypeId → TI} {dsts : List (Option Tmp)} {l rest : List Oper} {f f' : List Bool} {s s' : List DV} {σ σ' : Store} {K : List DV → Store → Prop} {Q : Exit → St → Prop}
 {dst : Option Tmp} {op : Op} {ty : TypeId} {pos : String} {af : Array Edge} {g : Option (Nat × Bool)} {bx : List (Option Box)} {mp : List (Option (List (DV × DV)))} {E : Store → Prop}

theorem effD_congr {op : Op} (h : ∀ x ∈ op.operands, get s' x = get s x) : effD T σ s' op = effD T σ s op := by
 cases op <;> try rfl
 case box e x => simp only [effD]; rw [h x (by simp [Op.operands])]
 case makeSlice t x y => simp only [effD]; rw [h x (by simp [Op.operands]), h y (by simp [Op.operands])]
 case call c =>
  simp only [effD]
  cases hc : appCall c with
  | none => rfl
  | some q =>
   obtain ⟨x, y, t, t2⟩ := q
   obtain ⟨_, a2, _⟩ := appCall_some hc
   simp only
   rw [h x (by simp [Op.operands, Call.operands, a2]), h y (by simp [Op.operands, Call.operands, a2])]

def EA : Store → Prop := fun _ => True
def noStore (l : List Oper) : Bool := l.all fun o => match o.op with | .store _ _ _ | .alloc _ | .box _ _ => false | _ => true
theorem D_startA {id : Nat} (own : List FuncId) (hm : P.follows .mixedOrders = true) (h : DrD P EA dsts l (flagsOf own l) s σ (fun s τ => Q .normal ⟨s, τ⟩))
  (hd : l.map (·.dst) = dsts := by simp only [List.map_cons, List.map_nil]; exact rfl) (hf : fit l (flagsOf own l) = true := by decide +kernel) : Ev P (.region id l.toArray true) ⟨s, σ⟩ Q :=
 Ev_drawD hm _ _ hd hf h
theorem storeD_congr {t : TypeId} {p x : Operand} (h : ∀ y ∈ (Op.store t p x).operands, get s' y = get s y) : storeD T σ t (get s' p) (get s' x) = storeD T σ t (get s p) (get s x) := by
 rw [h p (by simp [Op.operands]), h x (by simp [Op.operands])]
theorem D_start {id : Nat} (own : List FuncId) (hm : P.follows .mixedOrders = true) (h : DrD P (EB σ.boxes σ.maps) dsts l (flagsOf own l) s σ (fun s τ => Q .normal ⟨s, τ⟩))
  (hd : l.map (·.dst) = dsts := by simp only [List.map_cons, List.map_nil]; exact rfl) (hns : noStore l = true := by rfl) (hf : fit l (flagsOf own l) = true := by decide +kernel) : Ev P (.region id l.toArray true) ⟨s, σ⟩ Q :=
 Ev_drawD hm _ _ hd hf h
def ES (σ : Store) : Store → Prop := fun τ => τ = σ
def EP (bx : List (Option Box)) : Store → Prop := fun τ => ∃ r, τ.boxes = bx ++ r
theorem EP_self {R : List (Option Row)} {M : List (Option (List (DV × DV)))} (b : List (Option Box)) : EP b ⟨R, b, M⟩ := ⟨[], (List.append_nil _).symm⟩
theorem EP_one {R : List (Option Row)} {M : List (Option (List (DV × DV)))} (b c : List (Option Box)) : EP b ⟨R, b ++ c, M⟩ := ⟨c, rfl⟩
theorem EP_app {R : List (Option Row)} {M : List (Option (List (DV × DV)))} (a b c : List (Option Box)) : EP (a ++ b) ⟨R, a ++ (b ++ c), M⟩ := ⟨c, (List.append_assoc _ _ _).symm⟩
theorem D_startP {id : Nat} (own : List FuncId) (hm : P.follows .mixedOrders = true) (h : DrD P (EP σ.boxes) dsts l (flagsOf own l) s σ (fun s τ => Q .normal ⟨s, τ⟩))
  (hd : l.map (·.dst) = dsts := by simp only [List.map_cons, List.map_nil]; exact rfl) (hf : fit l (flagsOf own l) = true := by decide +kernel) : Ev P (.region id l.toArray true) ⟨s, σ⟩ Q :=
 Ev_drawD hm _ _ hd hf h
theorem D_nil (h : K s σ) (hE : E σ := by first | exact ⟨rfl, rfl⟩ | exact trivial | exact rfl | exact EP_app _ _ _ | exact EP_self _ | exact EP_one _ _) : DrD P E dsts [] f s σ K := DrD_nil hE h
theorem D_con {c : Call} {fu : FuncId} {args args' : List DV} {C : Prop} {d : DV} [hfu : FnC P fu] [hi : Con P fu args' C d] (k : DrD P E dsts l f.tail s' σ K) (hc : C)
  (h : calleeD P s c = some (fu, args) := by simp (disch := omega) only [go_sem]; with_reducible exact rfl)
  (hle : weakL args = args' := by simp only [weakL, List.map_cons, List.map_nil, weakD_slt, weakD_sl, weakD_int, weakD_bool, weakD_str, weakD_agg, weakD_row, weakD_ptr, weakD_cp, weakD_rp, weakD_nilp, weakD_fn, weakD_mp, weakD_it, weakD_cm, weakD_undef]; exact rfl)
  (hs : putS s dst d = s' := by simp only [putS, List.set_cons_succ, List.set_cons_zero]; exact rfl)
  (hon : onD dsts s g = some true := by simp only [go_sem] <;> fail) (hf : f.headD false = false := by rfl) (hE : E σ := by first | exact ⟨rfl, rfl⟩ | exact trivial | exact rfl | exact EP_app _ _ _ | exact EP_self _ | exact EP_one _ _) : DrD P E dsts (⟨dst, .call c, ty, pos, af, g⟩ :: l) f s σ K :=
 DrD_pure hon hf h (hle ▸ LeL_weak args) (hi.ok hc) hfu.at_ hE hs k
theorem D_own {c : Call} {fu : FuncId} {args args' : List DV} {C : Prop} {xs : List DV} {e : TypeId} {st : Nat} [hfu : FnC P fu] [hi : ConOwn P fu args' C xs e st] (k : DrD P E dsts l f.tail s' σ' K) (hc : C)
  (h : calleeD P s c = some (fu, args) := by simp (disch := omega) only [go_sem]; with_reducible exact rfl)
  (hle : weakL args = args' := by simp only [weakL, List.map_cons, List.map_nil, weakD_slt, weakD_sl, weakD_int, weakD_bool, weakD_str, weakD_agg, weakD_row, weakD_ptr, weakD_cp, weakD_rp, weakD_nilp, weakD_fn, weakD_mp, weakD_it, weakD_cm, weakD_undef]; exact rfl)
  (hs : putS s dst (.row σ.rows.length xs.length) = s' := by simp only [go_sem]; exact rfl)
  (hσ : (⟨σ.rows ++ [some ⟨xs, e, st⟩], σ.boxes, σ.maps⟩ : Store) = σ' := by (try simp only [List.append_assoc, List.cons_append, List.nil_append]) <;> exact rfl)
  (hon : onD dsts s g = some true := by simp only [go_sem] <;> fail) (hf : f.headD false = true := by rfl) (hE : E σ := by first | exact ⟨rfl, rfl⟩ | exact trivial | exact rfl | exact EP_app _ _ _ | exact EP_self _ | exact EP_one _ _) : DrD P E dsts (⟨dst, .call c, ty, pos, af, g⟩ :: l) f s σ K :=
 DrD_own hon hf h (hle ▸ LeL_weak args) (hi.ok hc) hfu.at_ hE hs hσ k
theorem D_app {c : Call} {fu : FuncId} {args : List DV} {id len e' st' : Nat} {xs : List DV} {C : Prop} {ys : List DV} {e : TypeId} {st room : Nat} [hfu : FnC P fu] [hi : ConApp P fu args C ys e st room] (k : DrD P E dsts l f.tail s' σ' K) (hc : C) (hl : xs.length ≤ room)
  (h : calleeD P s c = some (fu, .row id len :: args) := by simp (disch := omega) only [go_sem]; with_reducible exact rfl)
  (hR : σ.rows[id]? = some (some ⟨xs, e', st'⟩) := by (try simp only [app_get, app_get0, List.getElem?_cons_succ, List.getElem?_cons_zero]) <;> exact rfl) (hx : len = xs.length := by first | rfl | (simp only [go_sem]; done) | (simp only [go_sem]; omega)) (he : e' = e := by rfl) (hst : st' = st := by rfl)
  (hs : putS s dst (.row id (len + ys.length)) = s' := by simp only [go_sem]; exact rfl)
  (hσ : (⟨σ.rows.set id (some ⟨xs ++ ys, e, st⟩), σ.boxes, σ.maps⟩ : Store) = σ' := by (try simp only [app_set, app_set0, List.set_cons_succ, List.set_cons_zero, List.nil_append, List.cons_append, List.append_assoc]) <;> exact rfl)
  (hon : onD dsts s g = some true := by simp only [go_sem] <;> fail) (hf : f.headD false = true := by rfl) (hE : E σ := by first | exact ⟨rfl, rfl⟩ | exact trivial | exact rfl | exact EP_app _ _ _ | exact EP_self _ | exact EP_one _ _) : DrD P E dsts (⟨dst, .call c, ty, pos, af, g⟩ :: l) f s σ K := by
 subst hx; subst hσ; subst he; subst hst
 intro ops ho
 refine ⟨hE, .inr (.inr ⟨onD_wanted ho hon, hf, _, _, ?_, by rw [putS_eq, hs]; exact k ops ho⟩)⟩
 refine ⟨(fun h => by cases h), ?_⟩
 intro s1 hag
 exact Does.act (s := ⟨s1, σ⟩) rfl (by rw [calleeD_congr (agree_ops hag)]; exact h) (LeL.refl _) (hi.ok hc σ id xs hR hl) hfu.at_
theorem D_eff (hT : TOK P T) {C : Prop} {d : DV} (k : DrD P E dsts l f.tail s' σ' K) (hc : C)
  (h : effD T σ s op = some (C, d, σ') := by simp (maxSteps := 1000000) (disch := omega) only [go_sem]; with_reducible exact rfl)
  (hs : putS s dst d = s' := by simp only [putS, List.set_cons_succ, List.set_cons_zero]; exact rfl)
  (hon : onD dsts s g = some true := by simp only [go_sem] <;> fail) (hf : f.headD false = true := by rfl) (hE : E σ := by first | exact ⟨rfl, rfl⟩ | exact trivial | exact rfl | exact EP_app _ _ _ | exact EP_self _ | exact EP_one _ _) : DrD P E dsts (⟨dst, op, ty, pos, af, g⟩ :: l) f s σ K :=
 DrD_eff hon hf (fun s1 hs1 => effD_sound hT (o := ⟨dst, op, ty, pos, af, g⟩) (by rw [effD_congr hs1]; exact h) hc) hE hs k (by cases op <;> first | rfl | (simp [effD] at h))
/-! ### so many as have the first one's guard, and are no calls -/
def stopOp (o : Oper) : Bool :=
 match o.op with
 | .call c =>
  match c.callee with
  | .builtin _ => false
  | _ => true
 | .alloc _ | .box _ _ | .store _ _ _ => true
 | _ => false
def sameG : Option (Nat × Bool) → Option (Nat × Bool) → Bool
 | none, none => true
 | some (j, w), some (j', w') => j == j' && w == w'
 | _, _ => false
def leadG (g : Option (Nat × Bool)) : List Oper → List Bool → Nat
 | [], _ => 0
 | o :: l, f => if sameG g o.guard && !stopOp o && !f.headD false then leadG g l f.tail + 1 else 0
def leadQ (l : List Oper) (f : List Bool) : Nat := match l with | [] => 0 | o :: _ => leadG o.guard l f
theorem D_runL (hT : TOK P T) {C : Prop} {acc : List DV} {n : Nat} {l1 l2 : List Oper} {f2 : List Bool} (k : DrD P (EB bx mp) dsts l2 f2 s' σ K) (hc : C)
  (hn : leadQ l f = n := by simp only [List.drop_succ_cons, List.drop_zero, leadQ, leadG, sameG, stopOp, flagsOf, isWr, List.map_cons, List.map_nil, List.headD_cons, List.tail_cons, List.contains_cons, List.contains_nil, Nat.reduceBEq, beq_self_eq_true, Bool.true_beq, Bool.false_beq, Bool.not_true, Bool.not_false, Bool.and_true, Bool.true_and, Bool.and_false, Bool.false_and, Bool.or_false, Bool.false_or, Bool.or_true, Bool.true_or, Bool.and_self, if_true, if_false, Bool.false_eq_true, Nat.zero_add, Nat.reduceAdd]; exact rfl) (h1 : l.take n = l1 := by simp only [List.take_succ_cons, List.take_zero]; exact rfl) (h2 : l.drop n = l2 := by simp only [List.drop_succ_cons, List.drop_zero]; exact rfl) (hl : Nat.ble n l.length = true := by rfl) (h3 : f.drop n = f2 := by rfl)
  (h : ∀ R, runQ T dsts ⟨R, bx, mp⟩ l1 f s True [] = (C, acc, s', [], f') := by intro R; simp (maxSteps := 1000000) (disch := omega) only [go_sem]; with_reducible exact rfl)
  (hp : l2.length < l.length := by decide) (hE : EB bx mp σ := by exact ⟨rfl, rfl⟩) : DrD P (EB bx mp) dsts l f s σ K := by
 refine DrD_runN hT hE n (acc := acc) (f' := f') h1 h2 (Nat.le_of_ble_eq_true hl) h3 (fun τ hτ => ⟨C, ?_, hc⟩) k
 obtain ⟨R, b, m⟩ := τ
 obtain ⟨h1, h2⟩ := hτ
 simp only at h1 h2
 subst h1; subst h2
 exact h R
theorem D_runLA (hT : TOK P T) {C : Prop} {acc : List DV} {n : Nat} {l1 l2 : List Oper} {f2 : List Bool} (k : DrD P EA dsts l2 f2 s' σ K) (hc : C)
  (hn : leadQ l f = n := by simp only [List.drop_succ_cons, List.drop_zero, leadQ, leadG, sameG, stopOp, flagsOf, isWr, List.map_cons, List.map_nil, List.headD_cons, List.tail_cons, List.contains_cons, List.contains_nil, Nat.reduceBEq, beq_self_eq_true, Bool.true_beq, Bool.false_beq, Bool.not_true, Bool.not_false, Bool.and_true, Bool.true_and, Bool.and_false, Bool.false_and, Bool.or_false, Bool.false_or, Bool.or_true, Bool.true_or, Bool.and_self, if_true, if_false, Bool.false_eq_true, Nat.zero_add, Nat.reduceAdd]; exact rfl) (h1 : l.take n = l1 := by simp only [List.take_succ_cons, List.take_zero]; exact rfl) (h2 : l.drop n = l2 := by simp only [List.drop_succ_cons, List.drop_zero]; exact rfl) (hl : Nat.ble n l.length = true := by rfl) (h3 : f.drop n = f2 := by rfl)
  (h : ∀ τ, runQ T dsts τ l1 f s True [] = (C, acc, s', [], f') := by intro R; simp (maxSteps := 1000000) (disch := omega) only [go_sem]; with_reducible exact rfl)
  (hp : l2.length < l.length := by decide) : DrD P EA dsts l f s σ K :=
 DrD_runN hT trivial n (acc := acc) (f' := f') h1 h2 (Nat.le_of_ble_eq_true hl) h3 (fun τ _ => ⟨C, h τ, hc⟩) k
theorem D_runLP (hT : TOK P T) {C : Prop} {acc : List DV} {n : Nat} {l1 l2 : List Oper} {f2 : List Bool} (k : DrD P (EP bx) dsts l2 f2 s' σ K) (hc : C)
  (hn : leadQ l f = n := by simp only [List.drop_succ_cons, List.drop_zero, leadQ, leadG, sameG, stopOp, flagsOf, isWr, List.map_cons, List.map_nil, List.headD_cons, List.tail_cons, List.contains_cons, List.contains_nil, Nat.reduceBEq, beq_self_eq_true, Bool.true_beq, Bool.false_beq, Bool.not_true, Bool.not_false, Bool.and_true, Bool.true_and, Bool.and_false, Bool.false_and, Bool.or_false, Bool.false_or, Bool.or_true, Bool.true_or, Bool.and_self, if_true, if_false, Bool.false_eq_true, Nat.zero_add, Nat.reduceAdd]; exact rfl) (h1 : l.take n = l1 := by simp only [List.take_succ_cons, List.take_zero]; exact rfl) (h2 : l.drop n = l2 := by simp only [List.drop_succ_cons, List.drop_zero]; exact rfl) (hl : Nat.ble n l.length = true := by rfl) (h3 : f.drop n = f2 := by rfl)
  (h : ∀ R r M, runQ T dsts ⟨R, bx ++ r, M⟩ l1 f s True [] = (C, acc, s', [], f') := by intro R r M; simp (maxSteps := 1000000) (disch := omega) only [go_sem]; with_reducible exact rfl)
  (hp : l2.length < l.length := by decide) (hE : EP bx σ := by first | exact EP_app _ _ _ | exact EP_self _ | exact EP_one _ _) : DrD P (EP bx) dsts l f s σ K := by
 refine DrD_runN hT hE n (acc := acc) (f' := f') h1 h2 (Nat.le_of_ble_eq_true hl) h3 (fun τ hτ => ⟨C, ?_, hc⟩) k
 obtain ⟨R, b, m⟩ := τ
 obtain ⟨r, h1⟩ := hτ
 simp only at h1
 subst h1
 exact h R r m
/-! ### guards that part the way -/
theorem D_split {b : Bool} {s1 s2 : List DV} {t : Nat} (hv : s.getD t .undef = .bool b) (h1 : s.set t (.bool true) = s1) (h2 : s.set t (.bool false) = s2) (k1 : b = true → DrD P E dsts l f s1 σ K) (k2 : b = false → DrD P E dsts l f s2 σ K) : DrD P E dsts l f s σ K := by
 cases b
 ·rw [← bset hv, h2]; exact k2 rfl
 ·rw [← bset hv, h1]; exact k1 rfl
theorem D_grdP {b : Bool} {p : Prop} [Decidable p] {s1 s2 : List DV} {j t : Nat} {want : Bool} (k1 : p → DrD P E dsts (⟨dst, op, ty, pos, af, some (j, want)⟩ :: rest) f s1 σ K) (k2 : ¬p → DrD P E dsts (⟨dst, op, ty, pos, af, some (j, want)⟩ :: rest) f s2 σ K)
  (hj : dsts.getD j none = some t := by simp only [List.getD_cons_succ, List.getD_cons_zero]; exact rfl)
  (hv : s.getD t .undef = .bool b := by simp only [List.getD_cons_succ, List.getD_cons_zero]; exact rfl) (hb : b = decide p := by first | with_reducible exact rfl | with_reducible exact notD _)
  (h1 : s.set t (.bool true) = s1 := by simp only [List.set_cons_succ, List.set_cons_zero]; exact rfl)
  (h2 : s.set t (.bool false) = s2 := by simp only [List.set_cons_succ, List.set_cons_zero]; exact rfl) : DrD P E dsts (⟨dst, op, ty, pos, af, some (j, want)⟩ :: rest) f s σ K :=
 D_split (hb ▸ hv) h1 h2 (fun h => k1 (of_decide_eq_true h)) (fun h => k2 (of_decide_eq_false h))
theorem D_grdN {b : Bool} {p : Prop} [Decidable p] {s1 : List DV} {j t : Nat} {want : Bool} (k1 : DrD P E dsts (⟨dst, op, ty, pos, af, some (j, want)⟩ :: rest) f s1 σ K)
  (hj : dsts.getD j none = some t := by simp only [List.getD_cons_succ, List.getD_cons_zero]; exact rfl)
  (hv : s.getD t .undef = .bool b := by simp only [List.getD_cons_succ, List.getD_cons_zero]; exact rfl) (hb : b = decide p := by first | with_reducible exact rfl | with_reducible exact notD _) (hp : ¬p := by first | assumption | omega | exact fun hq => hq (by assumption))
  (h1 : s.set t (.bool false) = s1 := by simp only [List.set_cons_succ, List.set_cons_zero]; exact rfl) : DrD P E dsts (⟨dst, op, ty, pos, af, some (j, want)⟩ :: rest) f s σ K :=
 D_split (hb ▸ hv) rfl h1 (fun h => absurd (of_decide_eq_true h) hp) (fun _ => k1)
theorem Quiet.act {o : Oper} {d : DV} (h : Quiet P σ s o d) : Act1 P ⟨s, σ⟩ o (one d σ) :=
 fun w0 G a w K Qr hr hK => h w0 G a w K Qr hr (fun v G' w' hS hE hv => hK v d σ G' w' ⟨rfl, rfl⟩ hS hE hv)
theorem D_hold (hT : TOK P T) {C : Prop} {d : DV} (k : DrD P E dsts l f.tail s' σ K) (hc : C)
  (h : stepA T σ s op = some (C, d) := by simp (maxSteps := 1000000) (disch := omega) only [go_sem]; with_reducible exact rfl)
  (hs : putS s dst d = s' := by simp only [putS, List.set_cons_succ, List.set_cons_zero]; exact rfl)
  (hon : onD dsts s g = some true := by simp only [go_sem] <;> fail) (hf : f.headD false = true := by rfl) (hE : E σ := by first | exact ⟨rfl, rfl⟩ | exact trivial | exact rfl | exact EP_app _ _ _ | exact EP_self _ | exact EP_one _ _) : DrD P E dsts (⟨dst, op, ty, pos, af, g⟩ :: l) f s σ K := by
 intro ops ho
 refine ⟨hE, .inr (.inr ⟨onD_wanted ho hon, hf, _, _, ?_, by rw [putS_eq, hs]; exact k ops ho⟩)⟩
 refine ⟨fun _ => rfl, ?_⟩
 intro s1 hag
 exact Quiet.act (o := ⟨dst, op, ty, pos, af, g⟩) (Quiet.stepA hT (by rw [stepA_congr (agree_ops hag)]; exact h) hc)
theorem D_store (hT : TOK P T) {t : TypeId} {p x : Operand} {C : Prop} (k : DrD P E dsts l f.tail s σ' K) (hc : C)
  (h : storeD T σ t (get s p) (get s x) = some (C, σ') := by simp (maxSteps := 1000000) (disch := omega) only [go_sem]; with_reducible exact rfl)
  (hon : onD dsts s g = some true := by simp only [go_sem] <;> fail) (hf : f.headD false = true := by rfl) (hE : E σ := by first | exact ⟨rfl, rfl⟩ | exact trivial | exact rfl | exact EP_app _ _ _ | exact EP_self _ | exact EP_one _ _) : DrD P E dsts (⟨none, .store t p x, ty, pos, af, g⟩ :: l) f s σ K :=
 DrD_eff hon hf (d := .undef) (fun s1 hs1 => storeD_sound hT (slots := s1) (o := ⟨none, .store t p x, ty, pos, af, g⟩) rfl (by rw [storeD_congr hs1]; exact h) hc) hE rfl k rfl
end
theorem forallT_nil {α : Type} (p : α → Prop) : (∀ x ∈ ([] : List α), p x) = True := by simp
attribute [go_sem] forallT_nil List.forall_mem_cons runQ isWr flagsOf List.contains_cons List.contains_nil
end Go.Val
end

section
namespace Go.Val
open Go.RowKit
set_option linter.unusedSimpArgs false
set_option linter.unusedVariables false
section
variable {slots : List DV} {σ : Store} {Q : Exit → St → Prop} {s : Nat → List DV} {st : Nat → Store} {n i : Nat} {rows rg : List (Option Row)} {A B B' bg : List (Option Box)} {maps mg : List (Option (List (DV × DV)))}
theorem Q_rndB (hle : LeL slots (s (i + 1))) (hi : i < n) (h0 : st i = ⟨rows, A ++ B, maps⟩) (h1 : st (i + 1) = ⟨rows, A ++ B', maps⟩) (hσ : σ = ⟨rows ++ rg, A ++ (B' ++ bg), maps ++ mg⟩)
  (hl : B.length ≤ B'.length) (hn : nameds rows.length (A ++ B').length maps.length (s (i + 1)) = true) (hB : ∀ x ∈ B', ∀ b, x = some b → nameds 0 0 0 b.cs = true) : RoundG s st n i Q .normal ⟨slots, σ⟩ := by
 subst hσ
 refine Q_rndG hi ⟨hle, ?_, ?_, ?_, ?_⟩
 ·rw [h1]; exact ⟨⟨rg, rfl⟩, ⟨bg, by simp⟩, ⟨mg, rfl⟩⟩
 ·rw [h0, h1]; simp; omega
 ·rw [h1]; exact hn
 ·rw [h0, h1]
  refine ⟨fun id R h => .inl h, fun id b h => ?_, fun id M h => .inl h⟩
  simp only at h ⊢
  rcases Nat.lt_or_ge id A.length with hlt | hge
  ·rw [List.getElem?_append_left hlt] at h ⊢
   exact .inl h
  ·rw [List.getElem?_append_right hge] at h
   exact .inr (nameds_mono (Nat.zero_le _) (Nat.zero_le _) (Nat.zero_le _) _ (hB _ (List.mem_of_getElem? h) b rfl))
end
theorem sd {p : Prop} (h : p := by first | exact trivial | omega | (simp only [List.length_take, List.length_drop, List.length_append, List.length_replicate, List.length_cons, List.length_nil, bytes_len, beN_len, Int.reduceToNat, true_and, and_true]; omega)) : p := h
theorem le1 {a b : List DV} (h : LeL a b := by repeat (first | exact LeL.nil | refine LeL.cons2 ?_ (Le.undef _) | refine LeL.cons2 ?_ (Le.refl _) | refine LeL.cons2 ?_ (Le.sl _) | refine LeL.cons2 ?_ (Le.eq ?_)); all_goals (first | (simp; done) | (simp; omega) | (rw [DV.row.injEq]; exact ⟨by simp, by first | rfl | simp⟩) | skip)) : LeL a b := h
end Go.Val
end
