/- Regions that draw their order: where what conflicts is ordered, every order comes to what the listed one does. -/
import Derived.Test.YtloeeiamgaljoaaVNum
import Derived.Orders
namespace Go.Val
open Go.RowKit
set_option linter.unusedSimpArgs false
set_option linter.unusedVariables false

/-- One operation, or call, with what it comes to. -/
def Act1 (P : Program) (s : St) (o : Oper) (R : DV → Store → Prop) : Prop :=
  ∀ w0 G a w (K : Act → World → Prop) Qr, RelS w0 G s a w →
    (∀ v r σ' G' w', R r σ' → StoreRel w0 G' σ' w' → Ext G s.σ w G' σ' w' → RelV G' σ' w' r v → K (a.put o.dst v) w') → o.wp P a w K Qr
theorem Effect.act {P : Program} {s : St} {o : Oper} {R : DV → Store → Prop} (h : Effect P s o R) : Act1 P s o R := by
  intro w0 G a w K Qr hr hK
  obtain ⟨nv, w', v, r, σ', G', he, hv, hR, hS', hE', hd⟩ := h w0 G a w hr
  have key := hK v r σ' G' w' hR hS' hE' hd
  rcases hv with rfl | ⟨rfl, rfl⟩
  · simp only [Oper.wp, he, Oper.upon]; exact key
  · simp only [Oper.wp, he, Oper.upon]; exact key
theorem Does.act {P : Program} {s : St} {o : Oper} {R : DV → Store → Prop} {c : Call} {f : FuncId} {args args' : List DV} (ho : o.op = .call c) (h : calleeD P s.slots c = some (f, args)) (hle : LeL args args') (hF : Does P f args' s.σ R) (hat : FnAt P f) : Act1 P s o R := by
  intro w0 G a w K Qr hr hK
  obtain ⟨fn, body, hf, hb, hn⟩ := hat
  obtain ⟨vs, he, hrel⟩ := call_run hr.2.1 ho h hf hb hn
  simp only [Oper.wp, he, Oper.upon]
  refine (hF w0 G vs w hr.2.2 (hle _ _ _ _ hrel)).mono ?_
  rintro e w' ⟨v, r, σ', G', rfl, hR, hS', hE', hv⟩
  exact hK v r σ' G' w' hR hS' hE' hv
theorem EvL_act {P : Program} {s : St} {Q : Exit → St → Prop} {ops : Array Oper} {o : Oper} {rest : List Oper} {R : DV → Store → Prop} (hg : wantedD ops s.slots o = some true) (h : Act1 P s o R)
    (k : ∀ r σ', R r σ' → EvL P ops rest (St.put ⟨s.slots, σ'⟩ o.dst r) Q) : EvL P ops (o :: rest) s Q := by
  intro w0 G0 σ0 W0 G a w hx hr
  rw [wpList]
  rw [if_pos (wanted_rel hr.2.1 hg)]
  refine .inl (h w0 G a w _ _ hr ?_)
  intro v r σ' G' w' hR hS hE hd
  refine k r σ' hR w0 G0 σ0 W0 G' _ w' (by rw [put_σ]; exact hx.trans hE) ⟨by rw [put_defers]; exact hr.1, ?_, by rw [put_σ]; exact hS⟩
  rw [put_σ]
  exact RelL_put (hr.2.1.ext hE) hd o.dst

def agree (ts : List Tmp) (s s' : List DV) : Prop := ∀ t ∈ ts, s'.getD t .undef = s.getD t .undef

/-- Quiet whatever else lies in the slots, and in each of these stores. -/
def Stable (P : Program) (E : Store → Prop) (ops : Array Oper) (s : List DV) (o : Oper) (d : DV) : Prop :=
  ∀ τ, E τ → ∀ s', agree (o.looksAt ops) s s' → Quiet P τ s' o d
/-- What only looks at memory. -/
def isRd (o : Oper) : Bool := match o.op with | .load _ _ | .indexAddr _ _ _ => true | _ => false
def StableE (P : Program) (ops : Array Oper) (s : List DV) (σ : Store) (o : Oper) (d : DV) (σ' : Store) : Prop :=
  (isRd o = true → σ' = σ) ∧ ∀ s', agree (o.looksAt ops) s s' → Act1 P ⟨s', σ⟩ o (one d σ')

/-- The listed order, step by step. 'f': which operations write. -/
def Drw (P : Program) (E : Store → Prop) (ops : Array Oper) : List Oper → List Bool → List DV → Store → (List DV → Store → Prop) → Prop
  | [], _, s, σ, K => E σ ∧ K s σ
  | o :: l, f, s, σ, K => E σ ∧
      ((wantedD ops s o = some false ∧ f.headD false = false ∧ Drw P E ops l f.tail (St.put ⟨s, σ⟩ o.dst (.tup [])).slots σ K)
      ∨ (wantedD ops s o = some true ∧ f.headD false = false ∧ ∃ d, Stable P E ops s o d ∧ Drw P E ops l f.tail (St.put ⟨s, σ⟩ o.dst d).slots σ K)
      ∨ (wantedD ops s o = some true ∧ f.headD false = true ∧ ∃ d σ', StableE P ops s σ o d σ' ∧ Drw P E ops l f.tail (St.put ⟨s, σ⟩ o.dst d).slots σ' K))

def bound (o : Oper) : List Nat := (o.after.toList.filter (fun e => Region.binds .any e)).map (·.on)
/-- All that an operation stands behind. -/
def growG (acc : List (List Nat)) (o : Oper) : List Nat := (bound o).flatMap fun j => j :: acc.getD j []
def closFrom (acc : List (List Nat)) : List Oper → List (List Nat)
  | [] => acc
  | o :: l => closFrom (acc ++ [growG acc o]) l
def closG (l : List Oper) : List (List Nat) := closFrom [] l
def conflict (ops : Array Oper) (f : List Bool) (i j : Nat) (x y : Oper) : Bool :=
  (match x.dst with | some t => (y.looksAt ops).contains t || y.dst == some t | none => false) ||
  (match y.dst with | some t => (x.looksAt ops).contains t | none => false) || (f.getD i false && f.getD j false && !(isRd x && isRd y))
/-- Those that write. -/
def wrs (l : List Oper) (f : List Bool) : List Bool := l.mapIdx fun k o => f.getD k false && !isRd o
/-- The same as bits of a number, for the check. -/
def growB (acc : List Nat) (o : Oper) : Nat := (bound o).foldl (fun m j => m ||| 2 ^ j ||| acc.getD j 0) 0
def closFromB (acc : List Nat) : List Oper → List Nat
  | [] => acc
  | o :: l => closFromB (acc ++ [growB acc o]) l
theorem growB_spec {acc : List Nat} {accG : List (List Nat)} (h : ∀ j i, (acc.getD j 0).testBit i = true → i ∈ accG.getD j []) (o : Oper) {i : Nat} (hi : (growB acc o).testBit i = true) : i ∈ growG accG o := by
  unfold growB at hi
  unfold growG
  suffices H : ∀ (l : List Nat) (m : Nat), (l.foldl (fun m j => m ||| 2 ^ j ||| acc.getD j 0) m).testBit i = true → m.testBit i = true ∨ i ∈ l.flatMap fun j => j :: accG.getD j [] by
    rcases H _ 0 hi with h0 | h0
    · simp at h0
    · exact h0
  intro l
  induction l with
  | nil => intro m hm; exact .inl hm
  | cons j l ih =>
    intro m hm
    simp only [List.foldl_cons] at hm
    rcases ih _ hm with h1 | h1
    · rw [Nat.testBit_or, Nat.testBit_or, Nat.testBit_two_pow, Bool.or_eq_true, Bool.or_eq_true] at h1
      rcases h1 with (h1 | h1) | h1
      · exact .inl h1
      · refine .inr ?_
        have := of_decide_eq_true h1
        subst this
        simp
      · refine .inr ?_
        rw [List.flatMap_cons, List.mem_append]
        exact .inl (List.mem_cons_of_mem _ (h j i h1))
    · refine .inr ?_
      rw [List.flatMap_cons, List.mem_append]
      exact .inr h1
theorem closFromB_spec : ∀ (l : List Oper) (acc : List Nat) (accG : List (List Nat)), acc.length = accG.length → (∀ j i, (acc.getD j 0).testBit i = true → i ∈ accG.getD j []) →
    ∀ j i, ((closFromB acc l).getD j 0).testBit i = true → i ∈ (closFrom accG l).getD j []
  | [], acc, accG, _, h => h
  | o :: l, acc, accG, hl, h => by
    rw [closFromB, closFrom]
    refine closFromB_spec l _ _ (by simp [hl]) (fun j i hi => ?_)
    rcases Nat.lt_trichotomy j acc.length with hj | hj | hj
    · rw [List.getD_eq_getElem?_getD, List.getElem?_append_left hj, ← List.getD_eq_getElem?_getD] at hi
      rw [List.getD_eq_getElem?_getD, List.getElem?_append_left (by omega), ← List.getD_eq_getElem?_getD]
      exact h j i hi
    · subst hj
      rw [List.getD_eq_getElem?_getD, List.getElem?_append_right (Nat.le_refl _), Nat.sub_self] at hi
      rw [List.getD_eq_getElem?_getD, List.getElem?_append_right (by omega), hl, Nat.sub_self]
      exact growB_spec h o hi
    · rw [List.getD_eq_getElem?_getD, List.getElem?_eq_none (by simp; omega)] at hi
      simp at hi
def closB (l : List Oper) : List Nat := closFromB [] l
theorem closB_spec (l : List Oper) (j i : Nat) (h : ((closB l).getD j 0).testBit i = true) : i ∈ (closG l).getD j [] :=
  closFromB_spec l [] [] rfl (fun j i h => by simp at h) j i h

/-- The check: what conflicts is ordered. -/
def fit (l : List Oper) (f : List Bool) : Bool :=
  let c := closB l
  (List.range l.length).all fun j =>
    match l[j]? with
    | none => true
    | some y => (bound y).all (fun i => decide (i < j)) &&
        (List.range j).all fun i =>
          match l[i]? with
          | none => true
          | some x => !conflict l.toArray f i j x y || (c.getD j 0).testBit i

section
variable {P : Program} {T : TypeId → TI} {l : List Oper} {f : List Bool}

theorem closFrom_spec : ∀ (l : List Oper) (acc : List (List Nat)), (closFrom acc l).length = acc.length + l.length ∧ (closFrom acc l).take acc.length = acc ∧
    ∀ j o, l[j]? = some o → (closFrom acc l).getD (acc.length + j) [] = growG ((closFrom acc l).take (acc.length + j)) o := by
  intro l
  induction l with
  | nil => intro acc; refine ⟨rfl, List.take_length, fun j o h => by simp at h⟩
  | cons o l ih =>
    intro acc
    obtain ⟨h1, h2, h3⟩ := ih (acc ++ [growG acc o])
    rw [closFrom]
    generalize closFrom (acc ++ [growG acc o]) l = r at h1 h2 h3
    have hta := congrArg (List.take acc.length) h2
    rw [List.take_take, List.take_append_of_le_length (Nat.le_refl _), List.take_length, List.length_append, List.length_singleton, Nat.min_eq_left (by omega)] at hta
    refine ⟨by rw [h1]; simp; omega, hta, fun j p hj => ?_⟩
    cases j with
    | zero =>
      simp only [List.getElem?_cons_zero, Option.some.injEq] at hj
      subst hj
      rw [Nat.add_zero, hta]
      have := congrArg (fun x => x[acc.length]?) h2
      simp only [List.length_append, List.length_singleton] at this
      rw [List.getElem?_take_of_lt (by omega)] at this
      rw [List.getD_eq_getElem?_getD, this]
      simp
    | succ j =>
      simp only [List.getElem?_cons_succ] at hj
      have := h3 j p hj
      rw [List.length_append, List.length_singleton, Nat.add_assoc, Nat.add_comm 1 j] at this
      exact this
theorem closG_spec (l : List Oper) : (closG l).length = l.length ∧ ∀ j o, l[j]? = some o → (closG l).getD j [] = (bound o).flatMap fun i => i :: ((closG l).take j).getD i [] := by
  obtain ⟨h1, _, h3⟩ := closFrom_spec l []
  refine ⟨by rw [closG, h1]; simp, fun j o hj => ?_⟩
  have := h3 j o hj
  rw [List.length_nil, Nat.zero_add] at this
  exact this

/-- What must be ordered is. -/
theorem fit_spec (h : fit l f = true) : (∀ j y, l[j]? = some y → ∀ i ∈ bound y, i < j) ∧
    (∀ i j x y, l[i]? = some x → l[j]? = some y → i < j → conflict l.toArray f i j x y = true → i ∈ (closG l).getD j []) := by
  simp only [fit, List.all_eq_true, List.mem_range] at h
  refine ⟨fun j y hy i hi => ?_, fun i j x y hx hy hij hc => ?_⟩
  · have := h j (List.getElem?_eq_some_iff.1 hy).1
    rw [hy] at this
    simp only [Bool.and_eq_true, List.all_eq_true, decide_eq_true_eq] at this
    exact this.1 i hi
  · have := h j (List.getElem?_eq_some_iff.1 hy).1
    rw [hy] at this
    simp only [Bool.and_eq_true, List.all_eq_true, decide_eq_true_eq, List.mem_range] at this
    have := this.2 i hij
    rw [hx] at this
    simp only [hc, Bool.not_true, Bool.false_or] at this
    exact closB_spec l j i this

/-- A set with all that its members stand directly behind has all that they stand behind at all. -/
theorem clos_closed (hb : ∀ j y, l[j]? = some y → ∀ i ∈ bound y, i < j) {L : Nat → Bool} (hL : ∀ j y, l[j]? = some y → L j = true → ∀ i ∈ bound y, L i = true) :
    ∀ j, j < l.length → L j = true → ∀ i ∈ (closG l).getD j [], L i = true := by
  intro j
  induction j using Nat.strongRecOn with
  | ind j ih =>
    intro hj hl i hi
    have hy : l[j]? = some l[j] := List.getElem?_eq_getElem hj
    rw [(closG_spec l).2 j _ hy, List.mem_flatMap] at hi
    obtain ⟨k, hk, hi⟩ := hi
    have hkj := hb j _ hy k hk
    have hLk := hL j _ hy hl k hk
    rcases List.mem_cons.1 hi with rfl | hi
    · exact hLk
    · rw [List.getD_eq_getElem?_getD, List.getElem?_take_of_lt hkj, ← List.getD_eq_getElem?_getD] at hi
      exact ih k hkj (by omega) hLk i hi
theorem clos_closed' (hb : ∀ j y, l[j]? = some y → ∀ i ∈ bound y, i < j) {L : Nat → Bool} {n : Nat} (y : Oper) (hy : l[n]? = some y) (hL : ∀ j y, l[j]? = some y → L j = true → ∀ i ∈ bound y, L i = true)
    (hn : ∀ i ∈ bound y, L i = true) : ∀ i ∈ (closG l).getD n [], L i = true := by
  intro i hi
  rw [(closG_spec l).2 n _ hy, List.mem_flatMap] at hi
  obtain ⟨k, hk, hi⟩ := hi
  have hkj := hb n _ hy k hk
  rcases List.mem_cons.1 hi with rfl | hi
  · exact hn _ hk
  · rw [List.getD_eq_getElem?_getD, List.getElem?_take_of_lt hkj, ← List.getD_eq_getElem?_getD] at hi
    exact clos_closed hb hL k (by have := (List.getElem?_eq_some_iff.1 hy).1; omega) (hn k hk) i hi

/-- One step of the listed order. -/
def StepAt (P : Program) (E : Store → Prop) (ops : Array Oper) (f : List Bool) (i : Nat) (o : Oper) (s : List DV) (σ : Store) (d : DV) (σ' : Store) : Prop :=
  (wantedD ops s o = some false ∧ f.getD i false = false ∧ d = .tup [] ∧ σ' = σ) ∨
  (wantedD ops s o = some true ∧ f.getD i false = false ∧ σ' = σ ∧ Stable P E ops s o d) ∨
  (wantedD ops s o = some true ∧ f.getD i false = true ∧ StableE P ops s σ o d σ')

def putS (s : List DV) (t : Option Tmp) (d : DV) : List DV := match t with | some t => s.set t d | none => s
theorem putS_eq (s : List DV) (σ : Store) (t : Option Tmp) (d : DV) : (St.put ⟨s, σ⟩ t d).slots = putS s t d := by cases t <;> rfl

theorem Drw.steps {E : Store → Prop} {ops : Array Oper} {K : List DV → Store → Prop} : ∀ {l : List Oper} {f : List Bool} {s : List DV} {σ : Store}, Drw P E ops l f s σ K →
    ∃ (ss : Nat → List DV) (st : Nat → Store) (d : Nat → DV), ss 0 = s ∧ st 0 = σ ∧ K (ss l.length) (st l.length) ∧ (∀ i, i ≤ l.length → E (st i)) ∧
      ∀ i o, l[i]? = some o → StepAt P E ops f i o (ss i) (st i) (d i) (st (i + 1)) ∧ ss (i + 1) = putS (ss i) o.dst (d i) := by
  intro l
  induction l with
  | nil => intro f s σ h; exact ⟨fun _ => s, fun _ => σ, fun _ => .undef, rfl, rfl, h.2, fun _ _ => h.1, fun i o h => by simp at h⟩
  | cons o l ih =>
    intro f s σ h
    obtain ⟨hE, h⟩ := h
    have fin : ∀ (d0 : DV) (σ1 : Store), StepAt P E ops f 0 o s σ d0 σ1 → Drw P E ops l f.tail (putS s o.dst d0) σ1 K →
        ∃ (ss : Nat → List DV) (st : Nat → Store) (d : Nat → DV), ss 0 = s ∧ st 0 = σ ∧ K (ss (o :: l).length) (st (o :: l).length) ∧ (∀ i, i ≤ (o :: l).length → E (st i)) ∧
          ∀ i p, (o :: l)[i]? = some p → StepAt P E ops f i p (ss i) (st i) (d i) (st (i + 1)) ∧ ss (i + 1) = putS (ss i) p.dst (d i) := by
      intro d0 σ1 h0 h1
      obtain ⟨ss, st, d, e1, e2, e3, e4, e5⟩ := ih h1
      refine ⟨fun i => match i with | 0 => s | i + 1 => ss i, fun i => match i with | 0 => σ | i + 1 => st i, fun i => match i with | 0 => d0 | i + 1 => d i, rfl, rfl, e3, fun i hi => ?_, fun i p hp => ?_⟩
      · cases i with
        | zero => exact hE
        | succ i => exact e4 i (by simpa using hi)
      · cases i with
        | zero =>
          simp only [List.getElem?_cons_zero, Option.some.injEq] at hp
          subst hp
          simp only [e1, e2]
          exact ⟨h0, trivial⟩
        | succ i =>
          simp only [List.getElem?_cons_succ] at hp
          have := e5 i p hp
          simp only
          refine ⟨?_, this.2⟩
          have h := this.1
          unfold StepAt at h ⊢
          rw [show f.getD (i + 1) false = f.tail.getD i false by cases f <;> simp]
          exact h
    have h0f : f.getD 0 false = f.headD false := by cases f <;> rfl
    rcases h with ⟨h1, h2, h3⟩ | ⟨h1, h2, d, h3, h4⟩ | ⟨h1, h2, d, σ', h3, h4⟩
    · rw [putS_eq] at h3; exact fin (.tup []) σ (.inl ⟨h1, by rw [h0f, h2], rfl, rfl⟩) h3
    · rw [putS_eq] at h4; exact fin d σ (.inr (.inl ⟨h1, by rw [h0f, h2], rfl, h3⟩)) h4
    · rw [putS_eq] at h4; exact fin d σ' (.inr (.inr ⟨h1, by rw [h0f, h2], h3⟩)) h4

/-- The slots, and the store, behind a set of operations. -/
def slAt (l : List Oper) (s0 : List DV) (d : Nat → DV) (L : Nat → Bool) : Nat → List DV
  | 0 => s0
  | k + 1 => if L k then putS (slAt l s0 d L k) ((l[k]?).bind (·.dst)) (d k) else slAt l s0 d L k
def stAt (f : List Bool) (st : Nat → Store) (L : Nat → Bool) : Nat → Store
  | 0 => st 0
  | k + 1 => if L k && f.getD k false then st (k + 1) else stAt f st L k

theorem putS_len (s : List DV) (t : Option Tmp) (d : DV) : (putS s t d).length = s.length := by cases t <;> simp [putS]
theorem slAt_len (l : List Oper) (s0 : List DV) (d : Nat → DV) (L : Nat → Bool) : ∀ k, (slAt l s0 d L k).length = s0.length
  | 0 => rfl
  | k + 1 => by
    simp only [slAt]
    split
    · rw [putS_len, slAt_len]
    · exact slAt_len l s0 d L k
theorem getD_putS_ne {s : List DV} {t : Option Tmp} {d : DV} {u : Tmp} (h : t ≠ some u) : (putS s t d).getD u .undef = s.getD u .undef := by
  cases t with
  | none => rfl
  | some t =>
    simp only [putS, List.getD_eq_getElem?_getD]
    rw [List.getElem?_set_ne (fun e => h (by rw [e]))]
theorem getD_putS_eq {s s' : List DV} {d : DV} {u : Tmp} (h : s.length = s'.length) : (putS s (some u) d).getD u .undef = (putS s' (some u) d).getD u .undef := by
  simp only [putS, List.getD_eq_getElem?_getD]
  by_cases hu : u < s.length
  · rw [List.getElem?_set_self hu, List.getElem?_set_self (h ▸ hu)]
  · rw [List.getElem?_eq_none (by rw [List.length_set]; exact Nat.not_lt.1 hu), List.getElem?_eq_none (by rw [List.length_set, ← h]; exact Nat.not_lt.1 hu)]

/-- The slots of the listed order are those behind all that comes ahead. -/
theorem slAt_all {s0 : List DV} {d : Nat → DV} {ss : Nat → List DV} (h0 : ss 0 = s0) (hs : ∀ i o, l[i]? = some o → ss (i + 1) = putS (ss i) o.dst (d i)) : ∀ i, i ≤ l.length → slAt l s0 d (fun _ => true) i = ss i
  | 0, _ => h0.symm
  | k + 1, h => by
    have hy : l[k]? = some l[k] := List.getElem?_eq_getElem (by omega)
    simp only [slAt, if_true, hy, Option.bind_some]
    rw [slAt_all h0 hs k (by omega), hs k _ hy]

theorem slAt_agree {s0 : List DV} {d : Nat → DV} {L : Nat → Bool} {i : Nat} {t : Tmp} (h : ∀ j, (l[j]?).bind (·.dst) = some t → (L j = true ↔ j < i)) :
    ∀ k, (slAt l s0 d L k).getD t .undef = (slAt l s0 d (fun _ => true) (min i k)).getD t .undef
  | 0 => by simp [slAt]
  | k + 1 => by
    have ih := slAt_agree (s0 := s0) (d := d) h k
    by_cases hk : k < i
    · rw [show min i (k + 1) = min i k + 1 by omega, show min i k = k by omega]
      rw [show min i k = k by omega] at ih
      simp only [slAt, if_true]
      by_cases e : (l[k]?).bind (·.dst) = some t
      · rw [if_pos ((h k e).2 hk), e]
        exact getD_putS_eq (by rw [slAt_len, slAt_len])
      · rw [getD_putS_ne e]
        split
        · rw [getD_putS_ne e, ih]
        · exact ih
    · rw [show min i (k + 1) = min i k by omega, ← ih]
      simp only [slAt]
      split
      · rename_i hL
        by_cases e : (l[k]?).bind (·.dst) = some t
        · exact absurd ((h k e).1 hL) hk
        · rw [getD_putS_ne e]
      · rfl

theorem slAt_ext {s0 : List DV} {d : Nat → DV} {L L' : Nat → Bool} : ∀ {k}, (∀ j, j < k → L j = L' j) → slAt l s0 d L k = slAt l s0 d L' k
  | 0, _ => rfl
  | k + 1, h => by
    simp only [slAt]
    rw [h k (by omega), slAt_ext (fun j hj => h j (by omega))]

def plus (L : Nat → Bool) (i : Nat) : Nat → Bool := fun j => if j = i then true else L j

theorem putS_comm {s : List DV} {t u : Option Tmp} {d e : DV} (h : ∀ x, t = some x → u ≠ some x) : putS (putS s t d) u e = putS (putS s u e) t d := by
  cases t with
  | none => rfl
  | some t =>
    cases u with
    | none => rfl
    | some u => exact List.set_comm _ _ (fun e => h t rfl (by rw [e]))

theorem slAt_plus {s0 : List DV} {d : Nat → DV} {L : Nat → Bool} {i : Nat} (hi : L i = false) (h : ∀ j, i < j → L j = true → ∀ t, (l[i]?).bind (·.dst) = some t → (l[j]?).bind (·.dst) ≠ some t) :
    ∀ k, i < k → slAt l s0 d (plus L i) k = putS (slAt l s0 d L k) ((l[i]?).bind (·.dst)) (d i)
  | 0, hk => absurd hk (by omega)
  | k + 1, hk => by
    by_cases e : k = i
    · subst e
      simp only [slAt]
      rw [if_pos (by simp [plus]), hi, slAt_ext (L := plus L k) (L' := L) (fun j hj => by simp only [plus]; rw [if_neg (by omega)])]
      rfl
    · have ih := slAt_plus (s0 := s0) (d := d) hi h k (by omega)
      simp only [slAt]
      rw [show plus L i k = L k by simp only [plus]; rw [if_neg e], ih]
      split
      · rename_i hL
        rw [putS_comm (fun x hx => h k (by omega) hL x hx)]
      · rfl

theorem stAt_lt {st : Nat → Store} {L : Nat → Bool} {i n : Nat} (h : ∀ j, j < n → f.getD j false = true → L j = true → j < i) (hs : ∀ k, k < n → f.getD k false = false → st (k + 1) = st k) (hL : ∀ j, j < n → j < i → f.getD j false = true → L j = true) :
    ∀ k, k ≤ n → stAt f st L k = st (min i k)
  | 0, _ => by simp [stAt]
  | k + 1, hkn => by
    have ih := stAt_lt h hs hL k (by omega)
    simp only [stAt]
    cases hf : f.getD k false with
    | false =>
      rw [Bool.and_false, ih]
      by_cases hk : k < i
      · rw [show min i (k + 1) = min i k + 1 by omega, show min i k = k by omega, hs k (by omega) hf]; rfl
      · rw [show min i (k + 1) = min i k by omega]; rfl
    | true =>
      cases hLk : L k with
      | true =>
        have := h k (by omega) hf hLk
        rw [show min i (k + 1) = k + 1 by omega]; rfl
      | false =>
        have : ¬ k < i := fun hk => by rw [hL k (by omega) hk hf] at hLk; cases hLk
        rw [show min i (k + 1) = min i k by omega]; exact ih
theorem stAt_mem {st : Nat → Store} {L : Nat → Bool} : ∀ k, ∃ j, j ≤ k ∧ stAt f st L k = st j
  | 0 => ⟨0, Nat.le_refl _, rfl⟩
  | k + 1 => by
    simp only [stAt]
    split
    · exact ⟨k + 1, Nat.le_refl _, rfl⟩
    · obtain ⟨j, h1, h2⟩ := stAt_mem (st := st) (L := L) k
      exact ⟨j, by omega, h2⟩
theorem stAt_ext {st : Nat → Store} {L L' : Nat → Bool} : ∀ {k}, (∀ j, j < k → f.getD j false = true → L j = L' j) → stAt f st L k = stAt f st L' k
  | 0, _ => rfl
  | k + 1, h => by
    simp only [stAt]
    rw [stAt_ext (L := L) (L' := L') (fun j hj => h j (by omega))]
    cases hf : f.getD k false with
    | false => simp
    | true => rw [h k (by omega) hf]

theorem drew_ext {G : Gh} {σ : Store} {w : World} (n : Nat) : Ext G σ w G σ { w with drawn := n } :=
  ⟨fun _ h => ⟨h, rfl⟩, Nat.le_refl _, Nat.le_refl _, Nat.le_refl _, fun _ R _ h => ⟨R, h, rfl, Nat.le_refl _, fun _ => rfl⟩, fun _ _ => rfl, fun _ _ => rfl⟩
theorem drew_rel {w0 : World} {G : Gh} {σ : Store} {w : World} (n : Nat) (h : StoreRel w0 G σ w) : StoreRel w0 G σ { w with drawn := n } :=
  ⟨⟨h.below.os, h.below.tape, h.below.output, h.below.size, h.below.block⟩, h.lt, h.trk, fun id R hR => (h.rows id R hR).keep (drew_ext n) rfl (fun _ hk => ⟨hk, rfl⟩),
    fun id B hB => (h.boxes id B hB).keep (drew_ext n) rfl (fun _ hk => ⟨hk, rfl⟩), fun id M hM => (h.maps id M hM).keep (drew_ext n) rfl (fun _ hk => ⟨hk, rfl⟩)⟩

theorem wanted_looks {ops : Array Oper} {s s' : List DV} {o : Oper} (h : agree (o.looksAt ops) s s') : wantedD ops s' o = wantedD ops s o := by
  unfold wantedD
  cases hg : o.guard with
  | none => rfl
  | some g =>
    obtain ⟨j, want⟩ := g
    simp only
    cases hd : (ops[j]?).bind (·.dst) with
    | none => rfl
    | some t =>
      simp only [Option.map_some]
      rw [h t (by simp [Oper.looksAt, hg, hd])]

theorem mem_bound {o : Oper} {i : Nat} : i ∈ bound o ↔ ∃ e ∈ o.after.toList, Region.binds .any e = true ∧ e.on = i := by
  simp [bound, and_assoc]
theorem mem_ready {A : Array Bool} {i : Nat} : i ∈ Region.ready .any l.toArray A ↔ i < l.length ∧ A.getD i true = false ∧ ∃ o, l[i]? = some o ∧ ∀ j ∈ bound o, A.getD j false = true := by
  unfold Region.ready
  rw [List.mem_filter, List.mem_range]
  simp only [List.size_toArray, Bool.and_eq_true, Bool.not_eq_true', List.getElem?_toArray]
  constructor
  · rintro ⟨h1, h2, h3⟩
    refine ⟨h1, h2, l[i], List.getElem?_eq_getElem h1, fun j hj => ?_⟩
    rw [List.getElem?_eq_getElem h1] at h3
    simp only [Option.map_some, Option.getD_some] at h3
    rw [← Array.all_toList, List.all_eq_true] at h3
    obtain ⟨e, he, hb, rfl⟩ := mem_bound.1 hj
    have := h3 e he
    rw [hb] at this
    simpa using this
  · rintro ⟨h1, h2, o, ho, h3⟩
    refine ⟨h1, h2, ?_⟩
    rw [ho]
    simp only [Option.map_some, Option.getD_some]
    rw [← Array.all_toList, List.all_eq_true]
    intro e he
    cases hb : Region.binds .any e with
    | false => rfl
    | true => simpa using h3 e.on (mem_bound.2 ⟨e, he, hb, rfl⟩)

theorem ready_nil (hb : ∀ j y, l[j]? = some y → ∀ i ∈ bound y, i < j) {A : Array Bool} (hA : A.size = l.length) (h : Region.ready .any l.toArray A = []) : ∀ i, i < l.length → A.getD i false = true := by
  intro i
  induction i using Nat.strongRecOn with
  | ind i ih =>
    intro hi
    cases hAi : A.getD i false with
    | true => rfl
    | false =>
      have hm : i ∈ Region.ready .any l.toArray A := mem_ready.2 ⟨hi, by
        rw [Array.getD_eq_getD_getElem?] at hAi ⊢
        rw [Array.getElem?_eq_getElem (by omega)] at hAi ⊢
        exact hAi, l[i], List.getElem?_eq_getElem hi, fun j hj => ih j (hb i _ (List.getElem?_eq_getElem hi) j hj) (by have := hb i _ (List.getElem?_eq_getElem hi) j hj; omega)⟩
      rw [h] at hm
      cases hm

theorem wrs_get {l : List Oper} {f : List Bool} {k : Nat} {o : Oper} (h : l[k]? = some o) : (wrs l f).getD k false = (f.getD k false && !isRd o) := by
  unfold wrs
  rw [List.getD_eq_getElem?_getD, List.getElem?_mapIdx, h]
  rfl
theorem wrs_true {l : List Oper} {f : List Bool} {k : Nat} {o : Oper} (h : l[k]? = some o) (hw : (wrs l f).getD k false = true) : f.getD k false = true ∧ isRd o = false := by
  rw [wrs_get h, Bool.and_eq_true] at hw
  exact ⟨hw.1, by simpa using hw.2⟩
theorem conflict_w {ops : Array Oper} {f : List Bool} {i j : Nat} {x y : Oper} (hi : f.getD i false = true) (hj : f.getD j false = true) (h : isRd x = false ∨ isRd y = false) : conflict ops f i j x y = true := by
  unfold conflict
  rw [hi, hj]
  rcases h with h | h <;> simp [h]
/-- EVERY ORDER COMES TO WHAT THE LISTED ONE DOES. -/
theorem Ev_draw {id : Nat} {slots : List DV} {σ : Store} {Q : Exit → St → Prop} (hm : P.follows .mixedOrders = true) (f : List Bool) (E : Store → Prop) (hf : fit l f = true)
    (h : Drw P E l.toArray l f slots σ (fun s τ => Q .normal ⟨s, τ⟩)) : Ev P (.region id l.toArray true) ⟨slots, σ⟩ Q := by
  intro w0 G0 σ0 W0 G a w hx hr
  obtain ⟨ss, st, d, h0, hst0, hK, hE, hS⟩ := h.steps
  obtain ⟨hb, hcf⟩ := fit_spec hf
  have hss : ∀ i, i ≤ l.length → slAt l slots d (fun _ => true) i = ss i := slAt_all h0 (fun i o ho => (hS i o ho).2)
  have hstK : ∀ k, k < l.length → (wrs l f).getD k false = false → st (k + 1) = st k := by
    intro k hk hfk
    rw [wrs_get (List.getElem?_eq_getElem hk)] at hfk
    rcases (hS k _ (List.getElem?_eq_getElem hk)).1 with ⟨_, _, _, h⟩ | ⟨_, _, h, _⟩ | ⟨_, h, h2, _⟩
    · exact h
    · exact h
    · rw [h] at hfk; exact h2 (by simpa using hfk)
  refine wp_region_any hm ?_
  simp only [List.size_toArray]
  let LL : Array Bool → Nat → Bool := fun A i => A.getD i false
  have done : ∀ (A : Array Bool) (G : Gh) (a : Act) (w : World), A.size = l.length → RelS w0 G ⟨slAt l slots d (LL A) l.length, stAt (wrs l f) st (LL A) l.length⟩ a w → Ext G0 σ0 W0 G (stAt (wrs l f) st (LL A) l.length) w →
      Region.ready .any l.toArray A = [] → Post w0 G0 σ0 W0 Q .normal a w := by
    intro A G a w hA hr hx hn
    have hall := ready_nil hb hA hn
    have e1 : slAt l slots d (LL A) l.length = ss l.length := by
      rw [← hss _ (Nat.le_refl _)]
      exact slAt_ext (fun j hj => hall j hj)
    have e2 : stAt (wrs l f) st (LL A) l.length = st l.length := by
      rw [stAt_lt (i := l.length) (n := l.length) (fun j hj _ _ => hj) hstK (fun j hj _ _ => hall j hj) _ (Nat.le_refl _), Nat.min_self]
    rw [e1, e2] at hr
    rw [e2] at hx
    exact ⟨_, G, hK, hr, hx⟩
  have main : ∀ (fuel : Nat) (A : Array Bool) (G : Gh) (a : Act) (w : World), A.size = l.length → A.toList.countP (fun b => !b) ≤ fuel →
      (∀ j y, l[j]? = some y → LL A j = true → ∀ i ∈ bound y, LL A i = true) →
      RelS w0 G ⟨slAt l slots d (LL A) l.length, stAt (wrs l f) st (LL A) l.length⟩ a w → Ext G0 σ0 W0 G (stAt (wrs l f) st (LL A) l.length) w →
      wpAny P .any l.toArray (Post w0 G0 σ0 W0 Q) fuel A a w := by
    intro fuel
    induction fuel with
    | zero =>
      intro A G a w hA hc hcl hr hx
      have hn : Region.ready .any l.toArray A = [] := by
        refine List.eq_nil_iff_forall_not_mem.2 fun i hi => ?_
        obtain ⟨h1, h2, _⟩ := mem_ready.1 hi
        have h3 : A.toList.countP (fun b => !b) = 0 := by omega
        rw [List.countP_eq_zero] at h3
        have := h3 A[i] (by simp)
        rw [Array.getD_eq_getD_getElem?, Array.getElem?_eq_getElem (by omega)] at h2
        simp only [Option.getD_some] at h2
        rw [h2] at this
        simp at this
      exact ⟨hn, done A G a w hA hr hx hn⟩
    | succ fuel ih =>
      intro A G a w hA hc hcl hr hx
      refine ⟨done A G a w hA hr hx, fun i hi => ?_⟩
      obtain ⟨hin, hAi, o, ho, hdep⟩ := mem_ready.1 hi
      have hAg : A[i]'(by omega) = false := by
        rw [Array.getD_eq_getD_getElem?, Array.getElem?_eq_getElem (by omega)] at hAi
        simpa using hAi
      have hLi : LL A i = false := by
        show A.getD i false = false
        rw [Array.getD_eq_getD_getElem?, Array.getElem?_eq_getElem (by omega)]
        simpa using hAg
      have hpre : ∀ j x, l[j]? = some x → j < i → conflict l.toArray f j i x o = true → LL A j = true := fun j x hx hj hcf' =>
        clos_closed' hb o ho hcl hdep j (hcf j i x o hx ho hj hcf')
      have hpost : ∀ j y, l[j]? = some y → i < j → conflict l.toArray f i j o y = true → LL A j = false := fun j y hy hj hcf' => by
        cases hLj : LL A j with
        | false => rfl
        | true =>
          have := clos_closed hb hcl j (List.getElem?_eq_some_iff.1 hy).1 hLj i (hcf i j o y ho hy hj hcf')
          rw [hLi] at this; cases this
      have hag : agree (o.looksAt l.toArray) (ss i) (slAt l slots d (LL A) l.length) := by
        intro t ht
        have := slAt_agree (l := l) (s0 := slots) (d := d) (L := LL A) (i := i) (t := t) (fun j hj => by
          cases hy : l[j]? with
          | none => rw [hy] at hj; simp at hj
          | some y =>
            rw [hy] at hj
            simp only [Option.bind_some] at hj
            rcases Nat.lt_trichotomy j i with h | h | h
            · exact ⟨fun _ => h, fun _ => hpre j y hy h (by simp [conflict, hj, ht])⟩
            · subst h; exact ⟨fun h => absurd (hLi.symm.trans h) (by simp), fun h => by omega⟩
            · exact ⟨fun h' => absurd ((hpost j y hy h (by simp [conflict, hj, ht])).symm.trans h') (by simp), fun h' => by omega⟩) l.length
        rw [this, show min i l.length = i by omega, hss i (by omega)]
      have hwd := wanted_looks (s' := slAt l slots d (LL A) l.length) hag
      obtain ⟨hstep, hput⟩ := hS i o ho
      have hpl : LL (A.setIfInBounds i true) = plus (LL A) i := by
        funext j
        show (A.setIfInBounds i true).getD j false = _
        rw [Array.getD_eq_getD_getElem?, Array.getElem?_setIfInBounds]
        by_cases e : i = j
        · subst e; rw [if_pos rfl, if_pos (by omega)]; simp [plus]
        · rw [if_neg e, ← Array.getD_eq_getD_getElem?]
          simp only [plus]
          rw [if_neg (Ne.symm e)]
      have hsl : slAt l slots d (plus (LL A) i) l.length = putS (slAt l slots d (LL A) l.length) o.dst (d i) := by
        have := slAt_plus (l := l) (s0 := slots) (d := d) (L := LL A) (i := i) hLi (fun j hj hLj t ht hjt => by
          rw [ho] at ht
          cases hy : l[j]? with
          | none => rw [hy] at hjt; simp at hjt
          | some y =>
            rw [hy] at hjt
            simp only [Option.bind_some] at ht hjt
            have := hpost j y hy hj (by simp [conflict, ht, hjt])
            rw [hLj] at this; cases this) l.length hin
        rw [this, ho]; rfl
      have next : ∀ (G' : Gh) (v' : Value) (w' : World) (σ' : Store), stAt (wrs l f) st (plus (LL A) i) l.length = σ' → a.defers = [] → RelL G' σ' w' (slAt l slots d (LL A) l.length) a.tmps.toList → RelV G' σ' w' (d i) v' → StoreRel w0 G' σ' w' →
          Ext G0 σ0 W0 G' σ' w' → wpAny P .any l.toArray (Post w0 G0 σ0 W0 Q) fuel (A.setIfInBounds i true) (a.put o.dst v') w' := by
        intro G' v' w' σ' hσ' hd hrl hv hS' hx'
        refine ih _ G' _ w' (by simpa using hA) ?_ ?_ ?_ ?_
        · rw [Array.toList_setIfInBounds, List.countP_set (by simpa using (by omega : i < A.size))]
          have hp : 0 < A.toList.countP (fun b => !b) := List.countP_pos_iff.2 ⟨A[i], by simp, by rw [hAg]; rfl⟩
          have : A.toList[i]'(by simpa using (by omega : i < A.size)) = false := by simpa using hAg
          rw [this]
          simp only [Bool.not_false, if_true, Bool.not_true, Bool.false_eq_true, if_false]
          omega
        · rw [hpl]
          intro j y hy hLj k hk
          simp only [plus] at hLj ⊢
          by_cases e : k = i
          · rw [if_pos e]
          · rw [if_neg e]
            by_cases e' : j = i
            · subst e'
              rw [ho] at hy; injection hy with hy; subst hy
              exact hdep k hk
            · rw [if_neg e'] at hLj
              exact hcl j y hy hLj k hk
        · rw [hpl, hsl, hσ']
          refine ⟨by rw [put_defers]; exact hd, ?_, hS'⟩
          have := RelL_put hrl hv o.dst
          rw [putS_eq] at this
          exact this
        · rw [hpl, hσ']; exact hx'
      unfold wpOp
      rw [show l.toArray[i]? = some o by simpa using ho]
      simp only
      rcases hstep with ⟨h1, h2, h3, h4⟩ | ⟨h1, h2, h3, h4⟩ | ⟨h1, h2, h3⟩
      · rw [if_neg (by rw [wanted_rel hr.2.1 (hwd.trans h1)]; simp)]
        refine next G _ w _ ?_ hr.1 hr.2.1 (by rw [h3]; exact .tup [] [] rfl (fun i c v hc => by simp at hc)) hr.2.2 hx
        exact stAt_ext (fun j _ hfj => by simp only [plus]; rw [if_neg (by rintro rfl; rw [wrs_get ho, h2] at hfj; simp at hfj)])
      · rw [if_pos (wanted_rel hr.2.1 (hwd.trans h1))]
        refine .inl ?_
        obtain ⟨k, hk, hst⟩ := stAt_mem (f := wrs l f) (st := st) (L := LL A) l.length
        refine h4 _ (hE k hk) _ hag w0 G a w _ _ (by rw [← hst]; exact hr) ?_
        intro v G' w' hS' hE' hv
        refine next G' v w' _ ?_ hr.1 (by have := hr.2.1.ext (σ' := stAt (wrs l f) st (LL A) l.length) (by rw [hst]; simpa only [hst] using hE'); rw [hst] at this; exact this) hv hS' (hx.trans (by simpa only [hst] using hE'))
        rw [← hst]
        exact stAt_ext (fun j _ hfj => by simp only [plus]; rw [if_neg (by rintro rfl; rw [wrs_get ho, h2] at hfj; simp at hfj)])
      · rw [if_pos (wanted_rel hr.2.1 (hwd.trans h1))]
        refine .inl ?_
        have eqi : stAt (wrs l f) st (LL A) l.length = st i := by
          rw [stAt_lt (i := i) (n := l.length) (fun j hj hfj hLj => ?_) hstK (fun j hj hji hfj => ?_) _ (Nat.le_refl _), show min i l.length = i by omega]
          · rcases Nat.lt_trichotomy j i with h | h | h
            · exact h
            · subst h; rw [hLi] at hLj; cases hLj
            · have hw := wrs_true (List.getElem?_eq_getElem hj) hfj
              have := hpost j _ (List.getElem?_eq_getElem hj) h (conflict_w h2 hw.1 (.inr hw.2))
              rw [hLj] at this; cases this
          · have hw := wrs_true (List.getElem?_eq_getElem hj) hfj
            exact hpre j _ (List.getElem?_eq_getElem hj) hji (conflict_w hw.1 h2 (.inl hw.2))
        have eqi' : stAt (wrs l f) st (plus (LL A) i) l.length = st (i + 1) := by
          rw [stAt_lt (i := i + 1) (n := l.length) (fun j hj hfj hLj => ?_) hstK (fun j hj hji hfj => ?_) _ (Nat.le_refl _), show min (i + 1) l.length = i + 1 by omega]
          · simp only [plus] at hLj
            by_cases e : j = i
            · omega
            · rw [if_neg e] at hLj
              rcases Nat.lt_trichotomy j i with h | h | h
              · omega
              · omega
              · have hw := wrs_true (List.getElem?_eq_getElem hj) hfj
                have := hpost j _ (List.getElem?_eq_getElem hj) h (conflict_w h2 hw.1 (.inr hw.2))
                rw [hLj] at this; cases this
          · simp only [plus]
            by_cases e : j = i
            · rw [if_pos e]
            · rw [if_neg e]
              have hw := wrs_true (List.getElem?_eq_getElem hj) hfj
              exact hpre j _ (List.getElem?_eq_getElem hj) (by omega) (conflict_w hw.1 h2 (.inl hw.2))
        rw [eqi] at hr hx
        refine h3.2 _ hag w0 G a w _ _ hr ?_
        rintro v r σ' G' w' ⟨rfl, rfl⟩ hS' hE' hd
        exact next G' v w' _ eqi' hr.1 (hr.2.1.ext hE') hd hS' (hx.trans hE')
  have hfalse : ∀ j, LL (Array.replicate l.length false) j = false := by
    intro j
    show (Array.replicate l.length false).getD j false = false
    rw [Array.getD_eq_getD_getElem?, Array.getElem?_replicate]
    split <;> rfl
  have e1 : slAt l slots d (LL (Array.replicate l.length false)) l.length = slots := by
    have : ∀ k, slAt l slots d (LL (Array.replicate l.length false)) k = slots := by
      intro k
      induction k with
      | zero => rfl
      | succ k ih => simp only [slAt]; rw [hfalse k]; exact ih
    exact this _
  have e2 : stAt (wrs l f) st (LL (Array.replicate l.length false)) l.length = σ := by
    have : ∀ k, stAt (wrs l f) st (LL (Array.replicate l.length false)) k = σ := by
      intro k
      induction k with
      | zero => exact hst0
      | succ k ih => simp only [stAt]; rw [hfalse k]; exact ih
    exact this _
  refine main l.length (Array.replicate l.length false) G a _ (by simp) ?_ ?_ ?_ ?_
  · exact Nat.le_trans List.countP_le_length (by simp)
  · intro j y _ h; rw [hfalse j] at h; cases h
  · rw [e1, e2]
    exact ⟨hr.1, hr.2.1.ext (drew_ext _), drew_rel _ hr.2.2⟩
  · rw [e2]; exact hx.trans (drew_ext _)
end
end Go.Val
