/- Regions that draw their order: where what conflicts is ordered, every order comes to what the listed one does. Drawn regions, gone through. A slice without room as a new row without elements. The lemmas by which a run is followed, as one set. -/
import Derived.Test.YtlfnmgmbmgacgaaVM3
import Derived.Orders
import Derived.Lib.SlBytesConst
section
namespace Go.Val
open Go.RowKit
set_option linter.unusedSimpArgs false
set_option linter.unusedVariables false

def Act1 (P : Program) (s : St) (o : Oper) (R : DV → Store → Prop) : Prop :=
 ∀ w0 G a w (K : Act → World → Prop) Qr, RelS w0 G s a w →
  (∀ v r σ' G' w', R r σ' → StoreRel w0 G' σ' w' → Ext G s.σ w G' σ' w' → RelV G' σ' w' r v → K (a.put o.dst v) w') → o.wp P a w K Qr
theorem Effect.act {P : Program} {s : St} {o : Oper} {R : DV → Store → Prop} (h : Effect P s o R) : Act1 P s o R := by
 intro w0 G a w K Qr hr hK
 obtain ⟨nv, w', v, r, σ', G', he, hv, hR, hS', hE', hd⟩ := h w0 G a w hr
 have key := hK v r σ' G' w' hR hS' hE' hd
 rcases hv with rfl | ⟨rfl, rfl⟩
 ·simp only [Oper.wp, he, Oper.upon]; exact key
 ·simp only [Oper.wp, he, Oper.upon]; exact key
theorem Does.act {P : Program} {s : St} {o : Oper} {R : DV → Store → Prop} {c : Call} {f : FuncId} {args args' : List DV} (ho : o.op = .call c) (h : calleeD P s.slots c = some (f, args)) (hle : LeL args args') (hF : Does P f args' s.σ R) (hat : FnAt P f) : Act1 P s o R := by
 intro w0 G a w K Qr hr hK
 obtain ⟨fn, body, hf, hb, hn⟩ := hat
 obtain ⟨vs, he, hrel⟩ := call_run hr.2.1 ho h hf hb hn
 simp only [Oper.wp, he, Oper.upon]
 refine (hF w0 G vs w hr.2.2 (hle _ _ _ _ hrel)).mono ?_
 rintro e w' ⟨v, r, σ', G', rfl, hR, hS', hE', hv⟩
 exact hK v r σ' G' w' hR hS' hE' hv
def agree (ts : List Tmp) (s s' : List DV) : Prop := ∀ t ∈ ts, s'.getD t .undef = s.getD t .undef

def Stable (P : Program) (E : Store → Prop) (ops : Array Oper) (s : List DV) (o : Oper) (d : DV) : Prop :=
 (∀ t n ps, o.op = .buildSlice t n ps → ∃ xs, d = .slt xs ∧ xs.length = n) ∧ ∀ τ, E τ → ∀ s', agree (o.looksAt ops) s s' → Quiet P τ s' o d
def isRd (o : Oper) : Bool := match o.op with | .load _ _ | .indexAddr _ _ _ => true | _ => false
def StableE (P : Program) (ops : Array Oper) (s : List DV) (σ : Store) (o : Oper) (d : DV) (σ' : Store) : Prop :=
 (isRd o = true → σ' = σ) ∧ ∀ s', agree (o.looksAt ops) s s' → Act1 P ⟨s', σ⟩ o (one d σ')

def Drw (P : Program) (E : Store → Prop) (ops : Array Oper) : List Oper → List Bool → List DV → Store → (List DV → Store → Prop) → Prop
 | [], _, s, σ, K => E σ ∧ K s σ
 | o :: l, f, s, σ, K => E σ ∧
   ((wantedD ops s o = some false ∧ f.headD false = false ∧ Drw P E ops l f.tail (St.put ⟨s, σ⟩ o.dst (.tup [])).slots σ K)
   ∨ (wantedD ops s o = some true ∧ f.headD false = false ∧ ∃ d, Stable P E ops s o d ∧ Drw P E ops l f.tail (St.put ⟨s, σ⟩ o.dst d).slots σ K)
   ∨ (wantedD ops s o = some true ∧ f.headD false = true ∧ ∃ d σ', StableE P ops s σ o d σ' ∧ Drw P E ops l f.tail (St.put ⟨s, σ⟩ o.dst d).slots σ' K))

def bound (o : Oper) : List Nat := (o.after.toList.filter (fun e => Region.binds .any e)).map (·.on)
def growG (acc : List (List Nat)) (o : Oper) : List Nat := (bound o).flatMap fun j => j :: acc.getD j []
def closFrom (acc : List (List Nat)) : List Oper → List (List Nat)
 | [] => acc
 | o :: l => closFrom (acc ++ [growG acc o]) l
def closG (l : List Oper) : List (List Nat) := closFrom [] l
def conflict (ops : Array Oper) (f : List Bool) (i j : Nat) (x y : Oper) : Bool :=
 (match x.dst with | some t => (y.looksAt ops).contains t || y.dst == some t | none => false) ||
 (match y.dst with | some t => (x.looksAt ops).contains t | none => false) || (f.getD i false && f.getD j false && !(isRd x && isRd y))
def wrs (l : List Oper) (f : List Bool) : List Bool := l.mapIdx fun k o => f.getD k false && !isRd o
def growB (acc : List Nat) (o : Oper) : Nat := (bound o).foldl (fun m j => m ||| 2 ^ j ||| acc.getD j 0) 0
def closFromB (acc : List Nat) : List Oper → List Nat
 | [] => acc
 | o :: l => closFromB (acc ++ [growB acc o]) l
theorem growB_spec {acc : List Nat} {accG : List (List Nat)} (h : ∀ j i, (acc.getD j 0).testBit i = true → i ∈ accG.getD j []) (o : Oper) {i : Nat} (hi : (growB acc o).testBit i = true) : i ∈ growG accG o := by
 unfold growB at hi
 unfold growG
 suffices H : ∀ (l : List Nat) (m : Nat), (l.foldl (fun m j => m ||| 2 ^ j ||| acc.getD j 0) m).testBit i = true → m.testBit i = true ∨ i ∈ l.flatMap fun j => j :: accG.getD j [] by
  rcases H _ 0 hi with h0 | h0
  ·simp at h0
  ·exact h0
 intro l
 induction l with
 | nil => intro m hm; exact .inl hm
 | cons j l ih =>
  intro m hm
  simp only [List.foldl_cons] at hm
  rcases ih _ hm with h1 | h1
  ·rw [Nat.testBit_or, Nat.testBit_or, Nat.testBit_two_pow, Bool.or_eq_true, Bool.or_eq_true] at h1
   rcases h1 with (h1 | h1) | h1
   ·exact .inl h1
   ·refine .inr ?_
    have := of_decide_eq_true h1
    subst this
    simp
   ·refine .inr ?_
    rw [List.flatMap_cons, List.mem_append]
    exact .inl (List.mem_cons_of_mem _ (h j i h1))
  ·refine .inr ?_
   rw [List.flatMap_cons, List.mem_append]
   exact .inr h1
theorem closFromB_spec : ∀ (l : List Oper) (acc : List Nat) (accG : List (List Nat)), acc.length = accG.length → (∀ j i, (acc.getD j 0).testBit i = true → i ∈ accG.getD j []) →
  ∀ j i, ((closFromB acc l).getD j 0).testBit i = true → i ∈ (closFrom accG l).getD j []
 | [], acc, accG, _, h => h
 | o :: l, acc, accG, hl, h => by
  rw [closFromB, closFrom]
  refine closFromB_spec l _ _ (by simp [hl]) (fun j i hi => ?_)
  rcases Nat.lt_trichotomy j acc.length with hj | hj | hj
  ·rw [List.getD_eq_getElem?_getD, List.getElem?_append_left hj, ← List.getD_eq_getElem?_getD] at hi
   rw [List.getD_eq_getElem?_getD, List.getElem?_append_left (by omega), ← List.getD_eq_getElem?_getD]
   exact h j i hi
  ·subst hj
   rw [List.getD_eq_getElem?_getD, List.getElem?_append_right (Nat.le_refl _), Nat.sub_self] at hi
   rw [List.getD_eq_getElem?_getD, List.getElem?_append_right (by omega), hl, Nat.sub_self]
   exact growB_spec h o hi
  ·rw [List.getD_eq_getElem?_getD, List.getElem?_eq_none (by simp; omega)] at hi
   simp at hi
def closB (l : List Oper) : List Nat := closFromB [] l
theorem closB_spec (l : List Oper) (j i : Nat) (h : ((closB l).getD j 0).testBit i = true) : i ∈ (closG l).getD j [] :=
 closFromB_spec l [] [] rfl (fun j i h => by simp at h) j i h

def fit (l : List Oper) (f : List Bool) : Bool :=
 let c := closB l
 (List.range l.length).all fun j =>
  match l[j]? with
  | none => true
  | some y => (bound y).all (fun i => decide (i < j)) &&
    (List.range j).all fun i =>
     match l[i]? with
     | none => true
     | some x => !conflict l.toArray f i j x y || (c.getD j 0).testBit i

section
variable {P : Program} {T : TypeId → TI} {l : List Oper} {f : List Bool}

theorem closFrom_spec : ∀ (l : List Oper) (acc : List (List Nat)), (closFrom acc l).length = acc.length + l.length ∧ (closFrom acc l).take acc.length = acc ∧
  ∀ j o, l[j]? = some o → (closFrom acc l).getD (acc.length + j) [] = growG ((closFrom acc l).take (acc.length + j)) o := by
 intro l
 induction l with
 | nil => intro acc; refine ⟨rfl, List.take_length, fun j o h => by simp at h⟩
 | cons o l ih =>
  intro acc
  obtain ⟨h1, h2, h3⟩ := ih (acc ++ [growG acc o])
  rw [closFrom]
  generalize closFrom (acc ++ [growG acc o]) l = r at h1 h2 h3
  have hta := congrArg (List.take acc.length) h2
  rw [List.take_take, List.take_append_of_le_length (Nat.le_refl _), List.take_length, List.length_append, List.length_singleton, Nat.min_eq_left (by omega)] at hta
  refine ⟨by rw [h1]; simp; omega, hta, fun j p hj => ?_⟩
  cases j with
  | zero =>
   simp only [List.getElem?_cons_zero, Option.some.injEq] at hj
   subst hj
   rw [Nat.add_zero, hta]
   have := congrArg (fun x => x[acc.length]?) h2
   simp only [List.length_append, List.length_singleton] at this
   rw [List.getElem?_take_of_lt (by omega)] at this
   rw [List.getD_eq_getElem?_getD, this]
   simp
  | succ j =>
   simp only [List.getElem?_cons_succ] at hj
   have := h3 j p hj
   rw [List.length_append, List.length_singleton, Nat.add_assoc, Nat.add_comm 1 j] at this
   exact this
theorem closG_spec (l : List Oper) : (closG l).length = l.length ∧ ∀ j o, l[j]? = some o → (closG l).getD j [] = (bound o).flatMap fun i => i :: ((closG l).take j).getD i [] := by
 obtain ⟨h1, _, h3⟩ := closFrom_spec l []
 refine ⟨by rw [closG, h1]; simp, fun j o hj => ?_⟩
 have := h3 j o hj
 rw [List.length_nil, Nat.zero_add] at this
 exact this

theorem fit_spec (h : fit l f = true) : (∀ j y, l[j]? = some y → ∀ i ∈ bound y, i < j) ∧
  (∀ i j x y, l[i]? = some x → l[j]? = some y → i < j → conflict l.toArray f i j x y = true → i ∈ (closG l).getD j []) := by
 simp only [fit, List.all_eq_true, List.mem_range] at h
 refine ⟨fun j y hy i hi => ?_, fun i j x y hx hy hij hc => ?_⟩
 ·have := h j (List.getElem?_eq_some_iff.1 hy).1
  rw [hy] at this
  simp only [Bool.and_eq_true, List.all_eq_true, decide_eq_true_eq] at this
  exact this.1 i hi
 ·have := h j (List.getElem?_eq_some_iff.1 hy).1
  rw [hy] at this
  simp only [Bool.and_eq_true, List.all_eq_true, decide_eq_true_eq, List.mem_range] at this
  have := this.2 i hij
  rw [hx] at this
  simp only [hc, Bool.not_true, Bool.false_or] at this
  exact closB_spec l j i this

theorem clos_closed (hb : ∀ j y, l[j]? = some y → ∀ i ∈ bound y, i < j) {L : Nat → Bool} (hL : ∀ j y, l[j]? = some y → L j = true → ∀ i ∈ bound y, L i = true) :
  ∀ j, j < l.length → L j = true → ∀ i ∈ (closG l).getD j [], L i = true := by
 intro j
 induction j using Nat.strongRecOn with
 | ind j ih =>
  intro hj hl i hi
  have hy : l[j]? = some l[j] := List.getElem?_eq_getElem hj
  rw [(closG_spec l).2 j _ hy, List.mem_flatMap] at hi
  obtain ⟨k, hk, hi⟩ := hi
  have hkj := hb j _ hy k hk
  have hLk := hL j _ hy hl k hk
  rcases List.mem_cons.1 hi with rfl | hi
  ·exact hLk
  ·rw [List.getD_eq_getElem?_getD, List.getElem?_take_of_lt hkj, ← List.getD_eq_getElem?_getD] at hi
   exact ih k hkj (by omega) hLk i hi
theorem clos_closed' (hb : ∀ j y, l[j]? = some y → ∀ i ∈ bound y, i < j) {L : Nat → Bool} {n : Nat} (y : Oper) (hy : l[n]? = some y) (hL : ∀ j y, l[j]? = some y → L j = true → ∀ i ∈ bound y, L i = true)
  (hn : ∀ i ∈ bound y, L i = true) : ∀ i ∈ (closG l).getD n [], L i = true := by
 intro i hi
 rw [(closG_spec l).2 n _ hy, List.mem_flatMap] at hi
 obtain ⟨k, hk, hi⟩ := hi
 have hkj := hb n _ hy k hk
 rcases List.mem_cons.1 hi with rfl | hi
 ·exact hn _ hk
 ·rw [List.getD_eq_getElem?_getD, List.getElem?_take_of_lt hkj, ← List.getD_eq_getElem?_getD] at hi
  exact clos_closed hb hL k (by have := (List.getElem?_eq_some_iff.1 hy).1; omega) (hn k hk) i hi

def StepAt (P : Program) (E : Store → Prop) (ops : Array Oper) (f : List Bool) (i : Nat) (o : Oper) (s : List DV) (σ : Store) (d : DV) (σ' : Store) : Prop :=
 (wantedD ops s o = some false ∧ f.getD i false = false ∧ d = .tup [] ∧ σ' = σ) ∨
 (wantedD ops s o = some true ∧ f.getD i false = false ∧ σ' = σ ∧ Stable P E ops s o d) ∨
 (wantedD ops s o = some true ∧ f.getD i false = true ∧ StableE P ops s σ o d σ')

def putS (s : List DV) (t : Option Tmp) (d : DV) : List DV := match t with | some t => s.set t d | none => s
theorem putS_eq (s : List DV) (σ : Store) (t : Option Tmp) (d : DV) : (St.put ⟨s, σ⟩ t d).slots = putS s t d := by cases t <;> rfl

theorem Drw.steps {E : Store → Prop} {ops : Array Oper} {K : List DV → Store → Prop} : ∀ {l : List Oper} {f : List Bool} {s : List DV} {σ : Store}, Drw P E ops l f s σ K →
  ∃ (ss : Nat → List DV) (st : Nat → Store) (d : Nat → DV), ss 0 = s ∧ st 0 = σ ∧ K (ss l.length) (st l.length) ∧ (∀ i, i ≤ l.length → E (st i)) ∧
   ∀ i o, l[i]? = some o → StepAt P E ops f i o (ss i) (st i) (d i) (st (i + 1)) ∧ ss (i + 1) = putS (ss i) o.dst (d i) := by
 intro l
 induction l with
 | nil => intro f s σ h; exact ⟨fun _ => s, fun _ => σ, fun _ => .undef, rfl, rfl, h.2, fun _ _ => h.1, fun i o h => by simp at h⟩
 | cons o l ih =>
  intro f s σ h
  obtain ⟨hE, h⟩ := h
  have fin : ∀ (d0 : DV) (σ1 : Store), StepAt P E ops f 0 o s σ d0 σ1 → Drw P E ops l f.tail (putS s o.dst d0) σ1 K →
    ∃ (ss : Nat → List DV) (st : Nat → Store) (d : Nat → DV), ss 0 = s ∧ st 0 = σ ∧ K (ss (o :: l).length) (st (o :: l).length) ∧ (∀ i, i ≤ (o :: l).length → E (st i)) ∧
     ∀ i p, (o :: l)[i]? = some p → StepAt P E ops f i p (ss i) (st i) (d i) (st (i + 1)) ∧ ss (i + 1) = putS (ss i) p.dst (d i) := by
   intro d0 σ1 h0 h1
   obtain ⟨ss, st, d, e1, e2, e3, e4, e5⟩ := ih h1
   refine ⟨fun i => match i with | 0 => s | i + 1 => ss i, fun i => match i with | 0 => σ | i + 1 => st i, fun i => match i with | 0 => d0 | i + 1 => d i, rfl, rfl, e3, fun i hi => ?_, fun i p hp => ?_⟩
   ·cases i with
    | zero => exact hE
    | succ i => exact e4 i (by simpa using hi)
   ·cases i with
    | zero =>
     simp only [List.getElem?_cons_zero, Option.some.injEq] at hp
     subst hp
     simp only [e1, e2]
     exact ⟨h0, trivial⟩
    | succ i =>
     simp only [List.getElem?_cons_succ] at hp
     have := e5 i p hp
     simp only
     refine ⟨?_, this.2⟩
     have h := this.1
     unfold StepAt at h ⊢
     rw [show f.getD (i + 1) false = f.tail.getD i false by cases f <;> simp]
     exact h
  have h0f : f.getD 0 false = f.headD false := by cases f <;> rfl
  rcases h with ⟨h1, h2, h3⟩ | ⟨h1, h2, d, h3, h4⟩ | ⟨h1, h2, d, σ', h3, h4⟩
  ·rw [putS_eq] at h3; exact fin (.tup []) σ (.inl ⟨h1, by rw [h0f, h2], rfl, rfl⟩) h3
  ·rw [putS_eq] at h4; exact fin d σ (.inr (.inl ⟨h1, by rw [h0f, h2], rfl, h3⟩)) h4
  ·rw [putS_eq] at h4; exact fin d σ' (.inr (.inr ⟨h1, by rw [h0f, h2], h3⟩)) h4

def slAt (l : List Oper) (s0 : List DV) (d : Nat → DV) (L : Nat → Bool) : Nat → List DV
 | 0 => s0
 | k + 1 => if L k then putS (slAt l s0 d L k) ((l[k]?).bind (·.dst)) (d k) else slAt l s0 d L k
def stAt (f : List Bool) (st : Nat → Store) (L : Nat → Bool) : Nat → Store
 | 0 => st 0
 | k + 1 => if L k && f.getD k false then st (k + 1) else stAt f st L k

theorem putS_len (s : List DV) (t : Option Tmp) (d : DV) : (putS s t d).length = s.length := by cases t <;> simp [putS]
theorem slAt_len (l : List Oper) (s0 : List DV) (d : Nat → DV) (L : Nat → Bool) : ∀ k, (slAt l s0 d L k).length = s0.length
 | 0 => rfl
 | k + 1 => by
  simp only [slAt]
  split
  ·rw [putS_len, slAt_len]
  ·exact slAt_len l s0 d L k
theorem getD_putS_ne {s : List DV} {t : Option Tmp} {d : DV} {u : Tmp} (h : t ≠ some u) : (putS s t d).getD u .undef = s.getD u .undef := by
 cases t with
 | none => rfl
 | some t =>
  simp only [putS, List.getD_eq_getElem?_getD]
  rw [List.getElem?_set_ne (fun e => h (by rw [e]))]
theorem getD_putS_eq {s s' : List DV} {d : DV} {u : Tmp} (h : s.length = s'.length) : (putS s (some u) d).getD u .undef = (putS s' (some u) d).getD u .undef := by
 simp only [putS, List.getD_eq_getElem?_getD]
 by_cases hu : u < s.length
 ·rw [List.getElem?_set_self hu, List.getElem?_set_self (h ▸ hu)]
 ·rw [List.getElem?_eq_none (by rw [List.length_set]; exact Nat.not_lt.1 hu), List.getElem?_eq_none (by rw [List.length_set, ← h]; exact Nat.not_lt.1 hu)]

theorem slAt_all {s0 : List DV} {d : Nat → DV} {ss : Nat → List DV} (h0 : ss 0 = s0) (hs : ∀ i o, l[i]? = some o → ss (i + 1) = putS (ss i) o.dst (d i)) : ∀ i, i ≤ l.length → slAt l s0 d (fun _ => true) i = ss i
 | 0, _ => h0.symm
 | k + 1, h => by
  have hy : l[k]? = some l[k] := List.getElem?_eq_getElem (by omega)
  simp only [slAt, if_true, hy, Option.bind_some]
  rw [slAt_all h0 hs k (by omega), hs k _ hy]

theorem slAt_agree {s0 : List DV} {d : Nat → DV} {L : Nat → Bool} {i : Nat} {t : Tmp} (h : ∀ j, (l[j]?).bind (·.dst) = some t → (L j = true ↔ j < i)) :
  ∀ k, (slAt l s0 d L k).getD t .undef = (slAt l s0 d (fun _ => true) (min i k)).getD t .undef
 | 0 => by simp [slAt]
 | k + 1 => by
  have ih := slAt_agree (s0 := s0) (d := d) h k
  by_cases hk : k < i
  ·rw [show min i (k + 1) = min i k + 1 by omega, show min i k = k by omega]
   rw [show min i k = k by omega] at ih
   simp only [slAt, if_true]
   by_cases e : (l[k]?).bind (·.dst) = some t
   ·rw [if_pos ((h k e).2 hk), e]
    exact getD_putS_eq (by rw [slAt_len, slAt_len])
   ·rw [getD_putS_ne e]
    split
    ·rw [getD_putS_ne e, ih]
    ·exact ih
  ·rw [show min i (k + 1) = min i k by omega, ← ih]
   simp only [slAt]
   split
   ·rename_i hL
    by_cases e : (l[k]?).bind (·.dst) = some t
    ·exact absurd ((h k e).1 hL) hk
    ·rw [getD_putS_ne e]
   ·rfl

theorem slAt_ext {s0 : List DV} {d : Nat → DV} {L L' : Nat → Bool} : ∀ {k}, (∀ j, j < k → L j = L' j) → slAt l s0 d L k = slAt l s0 d L' k
 | 0, _ => rfl
 | k + 1, h => by
  simp only [slAt]
  rw [h k (by omega), slAt_ext (fun j hj => h j (by omega))]

def plus (L : Nat → Bool) (i : Nat) : Nat → Bool := fun j => if j = i then true else L j

theorem putS_comm {s : List DV} {t u : Option Tmp} {d e : DV} (h : ∀ x, t = some x → u ≠ some x) : putS (putS s t d) u e = putS (putS s u e) t d := by
 cases t with
 | none => rfl
 | some t =>
  cases u with
  | none => rfl
  | some u => exact List.set_comm _ _ (fun e => h t rfl (by rw [e]))

theorem slAt_plus {s0 : List DV} {d : Nat → DV} {L : Nat → Bool} {i : Nat} (hi : L i = false) (h : ∀ j, i < j → L j = true → ∀ t, (l[i]?).bind (·.dst) = some t → (l[j]?).bind (·.dst) ≠ some t) :
  ∀ k, i < k → slAt l s0 d (plus L i) k = putS (slAt l s0 d L k) ((l[i]?).bind (·.dst)) (d i)
 | 0, hk => absurd hk (by omega)
 | k + 1, hk => by
  by_cases e : k = i
  ·subst e
   simp only [slAt]
   rw [if_pos (by simp [plus]), hi, slAt_ext (L := plus L k) (L' := L) (fun j hj => by simp only [plus]; rw [if_neg (by omega)])]
   rfl
  ·have ih := slAt_plus (s0 := s0) (d := d) hi h k (by omega)
   simp only [slAt]
   rw [show plus L i k = L k by simp only [plus]; rw [if_neg e], ih]
   split
   ·rename_i hL
    rw [putS_comm (fun x hx => h k (by omega) hL x hx)]
   ·rfl

theorem stAt_lt {st : Nat → Store} {L : Nat → Bool} {i n : Nat} (h : ∀ j, j < n → f.getD j false = true → L j = true → j < i) (hs : ∀ k, k < n → f.getD k false = false → st (k + 1) = st k) (hL : ∀ j, j < n → j < i → f.getD j false = true → L j = true) :
  ∀ k, k ≤ n → stAt f st L k = st (min i k)
 | 0, _ => by simp [stAt]
 | k + 1, hkn => by
  have ih := stAt_lt h hs hL k (by omega)
  simp only [stAt]
  cases hf : f.getD k false with
  | false =>
   rw [Bool.and_false, ih]
   by_cases hk : k < i
   ·rw [show min i (k + 1) = min i k + 1 by omega, show min i k = k by omega, hs k (by omega) hf]; rfl
   ·rw [show min i (k + 1) = min i k by omega]; rfl
  | true =>
   cases hLk : L k with
   | true =>
    have := h k (by omega) hf hLk
    rw [show min i (k + 1) = k + 1 by omega]; rfl
   | false =>
    have : ¬ k < i := fun hk => by rw [hL k (by omega) hk hf] at hLk; cases hLk
    rw [show min i (k + 1) = min i k by omega]; exact ih
theorem stAt_mem {st : Nat → Store} {L : Nat → Bool} : ∀ k, ∃ j, j ≤ k ∧ stAt f st L k = st j
 | 0 => ⟨0, Nat.le_refl _, rfl⟩
 | k + 1 => by
  simp only [stAt]
  split
  ·exact ⟨k + 1, Nat.le_refl _, rfl⟩
  ·obtain ⟨j, h1, h2⟩ := stAt_mem (st := st) (L := L) k
   exact ⟨j, by omega, h2⟩
theorem stAt_ext {st : Nat → Store} {L L' : Nat → Bool} : ∀ {k}, (∀ j, j < k → f.getD j false = true → L j = L' j) → stAt f st L k = stAt f st L' k
 | 0, _ => rfl
 | k + 1, h => by
  simp only [stAt]
  rw [stAt_ext (L := L) (L' := L') (fun j hj => h j (by omega))]
  cases hf : f.getD k false with
  | false => simp
  | true => rw [h k (by omega) hf]

theorem drew_ext {G : Gh} {σ : Store} {w : World} (n : Nat) : Ext G σ w G σ { w with drawn := n } :=
 ⟨fun _ h => ⟨h, rfl⟩, Nat.le_refl _, Nat.le_refl _, Nat.le_refl _, fun _ R _ h => ⟨R, h, rfl, Nat.le_refl _, fun _ => rfl⟩, fun _ _ => rfl, fun _ _ => rfl, fun _ h => ⟨h, rfl⟩⟩
theorem drew_rel {w0 : World} {G : Gh} {σ : Store} {w : World} (n : Nat) (h : StoreRel w0 G σ w) : StoreRel w0 G σ { w with drawn := n } :=
 ⟨⟨h.below.os, h.below.tape, h.below.output, h.below.size, h.below.block⟩, h.lt, h.trk, fun id R hR => (h.rows id R hR).keep (drew_ext n) rfl (fun _ hk => ⟨hk, rfl⟩),
  fun id B hB => (h.boxes id B hB).keep (drew_ext n) rfl (fun _ hk => ⟨hk, rfl⟩), fun id M hM => (h.maps id M hM).keep (drew_ext n) rfl (fun _ hk => ⟨hk, rfl⟩)⟩

theorem wanted_looks {ops : Array Oper} {s s' : List DV} {o : Oper} (h : agree (o.looksAt ops) s s') : wantedD ops s' o = wantedD ops s o := by
 unfold wantedD
 cases hg : o.guard with
 | none => rfl
 | some g =>
  obtain ⟨j, want⟩ := g
  simp only
  cases hd : (ops[j]?).bind (·.dst) with
  | none => rfl
  | some t =>
   simp only [Option.map_some]
   rw [h t (by simp [Oper.looksAt, hg, hd])]

theorem mem_bound {o : Oper} {i : Nat} : i ∈ bound o ↔ ∃ e ∈ o.after.toList, Region.binds .any e = true ∧ e.on = i := by
 simp [bound, and_assoc]
theorem mem_ready {A : Array Bool} {i : Nat} : i ∈ Region.ready .any l.toArray A ↔ i < l.length ∧ A.getD i true = false ∧ ∃ o, l[i]? = some o ∧ ∀ j ∈ bound o, A.getD j false = true := by
 unfold Region.ready
 rw [List.mem_filter, List.mem_range]
 simp only [List.size_toArray, Bool.and_eq_true, Bool.not_eq_true', List.getElem?_toArray]
 constructor
 ·rintro ⟨h1, h2, h3⟩
  refine ⟨h1, h2, l[i], List.getElem?_eq_getElem h1, fun j hj => ?_⟩
  rw [List.getElem?_eq_getElem h1] at h3
  simp only [Option.map_some, Option.getD_some] at h3
  rw [← Array.all_toList, List.all_eq_true] at h3
  obtain ⟨e, he, hb, rfl⟩ := mem_bound.1 hj
  have := h3 e he
  rw [hb] at this
  simpa using this
 ·rintro ⟨h1, h2, o, ho, h3⟩
  refine ⟨h1, h2, ?_⟩
  rw [ho]
  simp only [Option.map_some, Option.getD_some]
  rw [← Array.all_toList, List.all_eq_true]
  intro e he
  cases hb : Region.binds .any e with
  | false => rfl
  | true => simpa using h3 e.on (mem_bound.2 ⟨e, he, hb, rfl⟩)

theorem ready_nil (hb : ∀ j y, l[j]? = some y → ∀ i ∈ bound y, i < j) {A : Array Bool} (hA : A.size = l.length) (h : Region.ready .any l.toArray A = []) : ∀ i, i < l.length → A.getD i false = true := by
 intro i
 induction i using Nat.strongRecOn with
 | ind i ih =>
  intro hi
  cases hAi : A.getD i false with
  | true => rfl
  | false =>
   have hm : i ∈ Region.ready .any l.toArray A := mem_ready.2 ⟨hi, by
    rw [Array.getD_eq_getD_getElem?] at hAi ⊢
    rw [Array.getElem?_eq_getElem (by omega)] at hAi ⊢
    exact hAi, l[i], List.getElem?_eq_getElem hi, fun j hj => ih j (hb i _ (List.getElem?_eq_getElem hi) j hj) (by have := hb i _ (List.getElem?_eq_getElem hi) j hj; omega)⟩
   rw [h] at hm
   cases hm

theorem wrs_get {l : List Oper} {f : List Bool} {k : Nat} {o : Oper} (h : l[k]? = some o) : (wrs l f).getD k false = (f.getD k false && !isRd o) := by
 unfold wrs
 rw [List.getD_eq_getElem?_getD, List.getElem?_mapIdx, h]
 rfl
theorem wrs_true {l : List Oper} {f : List Bool} {k : Nat} {o : Oper} (h : l[k]? = some o) (hw : (wrs l f).getD k false = true) : f.getD k false = true ∧ isRd o = false := by
 rw [wrs_get h, Bool.and_eq_true] at hw
 exact ⟨hw.1, by simpa using hw.2⟩
theorem conflict_w {ops : Array Oper} {f : List Bool} {i j : Nat} {x y : Oper} (hi : f.getD i false = true) (hj : f.getD j false = true) (h : isRd x = false ∨ isRd y = false) : conflict ops f i j x y = true := by
 unfold conflict
 rw [hi, hj]
 rcases h with h | h <;> simp [h]
theorem Ev_draw {id : Nat} {slots : List DV} {σ : Store} {Q : Exit → St → Prop} (hm : P.follows .mixedOrders = true) (f : List Bool) (E : Store → Prop) (hf : fit l f = true)
  (h : Drw P E l.toArray l f slots σ (fun s τ => Q .normal ⟨s, τ⟩)) : Ev P (.region id l.toArray true) ⟨slots, σ⟩ Q := by
 intro w0 G0 σ0 W0 G a w hx hr
 obtain ⟨ss, st, d, h0, hst0, hK, hE, hS⟩ := h.steps
 obtain ⟨hb, hcf⟩ := fit_spec hf
 have hss : ∀ i, i ≤ l.length → slAt l slots d (fun _ => true) i = ss i := slAt_all h0 (fun i o ho => (hS i o ho).2)
 have hstK : ∀ k, k < l.length → (wrs l f).getD k false = false → st (k + 1) = st k := by
  intro k hk hfk
  rw [wrs_get (List.getElem?_eq_getElem hk)] at hfk
  rcases (hS k _ (List.getElem?_eq_getElem hk)).1 with ⟨_, _, _, h⟩ | ⟨_, _, h, _⟩ | ⟨_, h, h2, _⟩
  ·exact h
  ·exact h
  ·rw [h] at hfk; exact h2 (by simpa using hfk)
 refine wp_region_any hm ?_
 simp only [List.size_toArray]
 let LL : Array Bool → Nat → Bool := fun A i => A.getD i false
 have done : ∀ (A : Array Bool) (G : Gh) (a : Act) (w : World), A.size = l.length → RelS w0 G ⟨slAt l slots d (LL A) l.length, stAt (wrs l f) st (LL A) l.length⟩ a w → Ext G0 σ0 W0 G (stAt (wrs l f) st (LL A) l.length) w →
   Region.ready .any l.toArray A = [] → Post w0 G0 σ0 W0 Q .normal a w := by
  intro A G a w hA hr hx hn
  have hall := ready_nil hb hA hn
  have e1 : slAt l slots d (LL A) l.length = ss l.length := by
   rw [← hss _ (Nat.le_refl _)]
   exact slAt_ext (fun j hj => hall j hj)
  have e2 : stAt (wrs l f) st (LL A) l.length = st l.length := by
   rw [stAt_lt (i := l.length) (n := l.length) (fun j hj _ _ => hj) hstK (fun j hj _ _ => hall j hj) _ (Nat.le_refl _), Nat.min_self]
  rw [e1, e2] at hr
  rw [e2] at hx
  exact ⟨_, G, hK, hr, hx⟩
 have main : ∀ (fuel : Nat) (A : Array Bool) (G : Gh) (a : Act) (w : World), A.size = l.length → A.toList.countP (fun b => !b) ≤ fuel →
   (∀ j y, l[j]? = some y → LL A j = true → ∀ i ∈ bound y, LL A i = true) →
   RelS w0 G ⟨slAt l slots d (LL A) l.length, stAt (wrs l f) st (LL A) l.length⟩ a w → Ext G0 σ0 W0 G (stAt (wrs l f) st (LL A) l.length) w →
   wpAny P .any l.toArray (Post w0 G0 σ0 W0 Q) fuel A a w := by
  intro fuel
  induction fuel with
  | zero =>
   intro A G a w hA hc hcl hr hx
   have hn : Region.ready .any l.toArray A = [] := by
    refine List.eq_nil_iff_forall_not_mem.2 fun i hi => ?_
    obtain ⟨h1, h2, _⟩ := mem_ready.1 hi
    have h3 : A.toList.countP (fun b => !b) = 0 := by omega
    rw [List.countP_eq_zero] at h3
    have := h3 A[i] (by simp)
    rw [Array.getD_eq_getD_getElem?, Array.getElem?_eq_getElem (by omega)] at h2
    simp only [Option.getD_some] at h2
    rw [h2] at this
    simp at this
   exact ⟨hn, done A G a w hA hr hx hn⟩
  | succ fuel ih =>
   intro A G a w hA hc hcl hr hx
   refine ⟨done A G a w hA hr hx, fun i hi => ?_⟩
   obtain ⟨hin, hAi, o, ho, hdep⟩ := mem_ready.1 hi
   have hAg : A[i]'(by omega) = false := by
    rw [Array.getD_eq_getD_getElem?, Array.getElem?_eq_getElem (by omega)] at hAi
    simpa using hAi
   have hLi : LL A i = false := by
    show A.getD i false = false
    rw [Array.getD_eq_getD_getElem?, Array.getElem?_eq_getElem (by omega)]
    simpa using hAg
   have hpre : ∀ j x, l[j]? = some x → j < i → conflict l.toArray f j i x o = true → LL A j = true := fun j x hx hj hcf' =>
    clos_closed' hb o ho hcl hdep j (hcf j i x o hx ho hj hcf')
   have hpost : ∀ j y, l[j]? = some y → i < j → conflict l.toArray f i j o y = true → LL A j = false := fun j y hy hj hcf' => by
    cases hLj : LL A j with
    | false => rfl
    | true =>
     have := clos_closed hb hcl j (List.getElem?_eq_some_iff.1 hy).1 hLj i (hcf i j o y ho hy hj hcf')
     rw [hLi] at this; cases this
   have hag : agree (o.looksAt l.toArray) (ss i) (slAt l slots d (LL A) l.length) := by
    intro t ht
    have := slAt_agree (l := l) (s0 := slots) (d := d) (L := LL A) (i := i) (t := t) (fun j hj => by
     cases hy : l[j]? with
     | none => rw [hy] at hj; simp at hj
     | some y =>
      rw [hy] at hj
      simp only [Option.bind_some] at hj
      rcases Nat.lt_trichotomy j i with h | h | h
      ·exact ⟨fun _ => h, fun _ => hpre j y hy h (by simp [conflict, hj, ht])⟩
      ·subst h; exact ⟨fun h => absurd (hLi.symm.trans h) (by simp), fun h => by omega⟩
      ·exact ⟨fun h' => absurd ((hpost j y hy h (by simp [conflict, hj, ht])).symm.trans h') (by simp), fun h' => by omega⟩) l.length
    rw [this, show min i l.length = i by omega, hss i (by omega)]
   have hwd := wanted_looks (s' := slAt l slots d (LL A) l.length) hag
   obtain ⟨hstep, hput⟩ := hS i o ho
   have hpl : LL (A.setIfInBounds i true) = plus (LL A) i := by
    funext j
    show (A.setIfInBounds i true).getD j false = _
    rw [Array.getD_eq_getD_getElem?, Array.getElem?_setIfInBounds]
    by_cases e : i = j
    ·subst e; rw [if_pos rfl, if_pos (by omega)]; simp [plus]
    ·rw [if_neg e, ← Array.getD_eq_getD_getElem?]
     simp only [plus]
     rw [if_neg (Ne.symm e)]
   have hsl : slAt l slots d (plus (LL A) i) l.length = putS (slAt l slots d (LL A) l.length) o.dst (d i) := by
    have := slAt_plus (l := l) (s0 := slots) (d := d) (L := LL A) (i := i) hLi (fun j hj hLj t ht hjt => by
     rw [ho] at ht
     cases hy : l[j]? with
     | none => rw [hy] at hjt; simp at hjt
     | some y =>
      rw [hy] at hjt
      simp only [Option.bind_some] at ht hjt
      have := hpost j y hy hj (by simp [conflict, ht, hjt])
      rw [hLj] at this; cases this) l.length hin
    rw [this, ho]; rfl
   have next : ∀ (G' : Gh) (v' : Value) (w' : World) (σ' : Store), stAt (wrs l f) st (plus (LL A) i) l.length = σ' → Dfs G' w' a.defers → RelL G' σ' w' (slAt l slots d (LL A) l.length) a.tmps.toList → RelV G' σ' w' (d i) v' → StoreRel w0 G' σ' w' →
     Ext G0 σ0 W0 G' σ' w' → wpAny P .any l.toArray (Post w0 G0 σ0 W0 Q) fuel (A.setIfInBounds i true) (a.put o.dst v') w' := by
    intro G' v' w' σ' hσ' hd hrl hv hS' hx'
    refine ih _ G' _ w' (by simpa using hA) ?_ ?_ ?_ ?_
    ·rw [Array.toList_setIfInBounds, List.countP_set (by simpa using (by omega : i < A.size))]
     have hp : 0 < A.toList.countP (fun b => !b) := List.countP_pos_iff.2 ⟨A[i], by simp, by rw [hAg]; rfl⟩
     have : A.toList[i]'(by simpa using (by omega : i < A.size)) = false := by simpa using hAg
     rw [this]
     simp only [Bool.not_false, if_true, Bool.not_true, Bool.false_eq_true, if_false]
     omega
    ·rw [hpl]
     intro j y hy hLj k hk
     simp only [plus] at hLj ⊢
     by_cases e : k = i
     ·rw [if_pos e]
     ·rw [if_neg e]
      by_cases e' : j = i
      ·subst e'
       rw [ho] at hy; injection hy with hy; subst hy
       exact hdep k hk
      ·rw [if_neg e'] at hLj
       exact hcl j y hy hLj k hk
    ·rw [hpl, hsl, hσ']
     refine ⟨by rw [put_defers]; exact hd, ?_, hS'⟩
     have := RelL_put hrl hv o.dst
     rw [putS_eq] at this
     exact this
    ·rw [hpl, hσ']; exact hx'
   unfold wpOp
   rw [show l.toArray[i]? = some o by simpa using ho]
   simp only
   rcases hstep with ⟨h1, h2, h3, h4⟩ | ⟨h1, h2, h3, h4⟩ | ⟨h1, h2, h3⟩
   ·rw [if_neg (by rw [wanted_rel hr.2.1 (hwd.trans h1)]; simp)]
    refine next G _ w _ ?_ hr.1 hr.2.1 (by rw [h3]; exact .tup [] [] rfl (fun i c v hc => by simp at hc)) hr.2.2 hx
    exact stAt_ext (fun j _ hfj => by simp only [plus]; rw [if_neg (by rintro rfl; rw [wrs_get ho, h2] at hfj; simp at hfj)])
   ·rw [if_pos (wanted_rel hr.2.1 (hwd.trans h1))]
    refine .inl ?_
    obtain ⟨k, hk, hst⟩ := stAt_mem (f := wrs l f) (st := st) (L := LL A) l.length
    refine h4.2 _ (hE k hk) _ hag w0 G a w _ _ (by rw [← hst]; exact hr) ?_
    intro v G' w' hS' hE' hv
    refine next G' v w' _ ?_ (hr.1.ext (σ := stAt (wrs l f) st (LL A) l.length) (σ' := stAt (wrs l f) st (LL A) l.length) (by rw [hst]; simpa only [hst] using hE')) (by have := hr.2.1.ext (σ' := stAt (wrs l f) st (LL A) l.length) (by rw [hst]; simpa only [hst] using hE'); rw [hst] at this; exact this) hv hS' (hx.trans (by simpa only [hst] using hE'))
    rw [← hst]
    exact stAt_ext (fun j _ hfj => by simp only [plus]; rw [if_neg (by rintro rfl; rw [wrs_get ho, h2] at hfj; simp at hfj)])
   ·rw [if_pos (wanted_rel hr.2.1 (hwd.trans h1))]
    refine .inl ?_
    have eqi : stAt (wrs l f) st (LL A) l.length = st i := by
     rw [stAt_lt (i := i) (n := l.length) (fun j hj hfj hLj => ?_) hstK (fun j hj hji hfj => ?_) _ (Nat.le_refl _), show min i l.length = i by omega]
     ·rcases Nat.lt_trichotomy j i with h | h | h
      ·exact h
      ·subst h; rw [hLi] at hLj; cases hLj
      ·have hw := wrs_true (List.getElem?_eq_getElem hj) hfj
       have := hpost j _ (List.getElem?_eq_getElem hj) h (conflict_w h2 hw.1 (.inr hw.2))
       rw [hLj] at this; cases this
     ·have hw := wrs_true (List.getElem?_eq_getElem hj) hfj
      exact hpre j _ (List.getElem?_eq_getElem hj) hji (conflict_w hw.1 h2 (.inl hw.2))
    have eqi' : stAt (wrs l f) st (plus (LL A) i) l.length = st (i + 1) := by
     rw [stAt_lt (i := i + 1) (n := l.length) (fun j hj hfj hLj => ?_) hstK (fun j hj hji hfj => ?_) _ (Nat.le_refl _), show min (i + 1) l.length = i + 1 by omega]
     ·simp only [plus] at hLj
      by_cases e : j = i
      ·omega
      ·rw [if_neg e] at hLj
       rcases Nat.lt_trichotomy j i with h | h | h
       ·omega
       ·omega
       ·have hw := wrs_true (List.getElem?_eq_getElem hj) hfj
        have := hpost j _ (List.getElem?_eq_getElem hj) h (conflict_w h2 hw.1 (.inr hw.2))
        rw [hLj] at this; cases this
     ·simp only [plus]
      by_cases e : j = i
      ·rw [if_pos e]
      ·rw [if_neg e]
       have hw := wrs_true (List.getElem?_eq_getElem hj) hfj
       exact hpre j _ (List.getElem?_eq_getElem hj) (by omega) (conflict_w hw.1 h2 (.inl hw.2))
    rw [eqi] at hr hx
    refine h3.2 _ hag w0 G a w _ _ hr ?_
    rintro v r σ' G' w' ⟨rfl, rfl⟩ hS' hE' hd
    exact next G' v w' _ eqi' (hr.1.ext hE') (hr.2.1.ext hE') hd hS' (hx.trans hE')
 have hfalse : ∀ j, LL (Array.replicate l.length false) j = false := by
  intro j
  show (Array.replicate l.length false).getD j false = false
  rw [Array.getD_eq_getD_getElem?, Array.getElem?_replicate]
  split <;> rfl
 have e1 : slAt l slots d (LL (Array.replicate l.length false)) l.length = slots := by
  have : ∀ k, slAt l slots d (LL (Array.replicate l.length false)) k = slots := by
   intro k
   induction k with
   | zero => rfl
   | succ k ih => simp only [slAt]; rw [hfalse k]; exact ih
  exact this _
 have e2 : stAt (wrs l f) st (LL (Array.replicate l.length false)) l.length = σ := by
  have : ∀ k, stAt (wrs l f) st (LL (Array.replicate l.length false)) k = σ := by
   intro k
   induction k with
   | zero => exact hst0
   | succ k ih => simp only [stAt]; rw [hfalse k]; exact ih
  exact this _
 refine main l.length (Array.replicate l.length false) G a _ (by simp) ?_ ?_ ?_ ?_
 ·exact Nat.le_trans List.countP_le_length (by simp)
 ·intro j y _ h; rw [hfalse j] at h; cases h
 ·rw [e1, e2]
  exact ⟨hr.1.ext (drew_ext (G := G) (σ := σ) _), hr.2.1.ext (drew_ext _), drew_rel _ hr.2.2⟩
 ·rw [e2]; exact hx.trans (drew_ext _)
end
end Go.Val
end

section
namespace Go.Val
open Go.RowKit
set_option linter.unusedSimpArgs false
set_option linter.unusedVariables false

theorem get_agree {s s' : List DV} {x : Operand} (h : ∀ t, x = .tmp t → s'.getD t .undef = s.getD t .undef) : get s' x = get s x := by
 cases x <;> try rfl
 exact h _ rfl

theorem gets_congr {s s' : List DV} {xs : Array Operand} (h : ∀ x ∈ xs, get s' x = get s x) : gets s' xs = gets s xs := by
 simp only [gets]
 exact List.map_congr_left (fun x hx => h x (by simpa using hx))
theorem opt_congr {s s' : List DV} {x : Option Operand} (h : ∀ y ∈ x, get s' y = get s y) : x.map (get s') = x.map (get s) := by
 cases x with
 | none => rfl
 | some y => simp [h y rfl]
theorem parts_congr {s s' : List DV} {ps : Array (Nat × Operand)} (h : ∀ x ∈ (ps.toList.map (·.2)).toArray, get s' x = get s x) : (ps.toList.map fun p => (p.1, get s' p.2)) = ps.toList.map fun p => (p.1, get s p.2) :=
 List.map_congr_left (fun p hp => by rw [h p.2 (by simp; exact ⟨p.1, by simpa using hp⟩)])

theorem stepQ_congr {T : TypeId → TI} {σ : Store} {s s' : List DV} {op : Op} (h : ∀ x ∈ op.operands, get s' x = get s x) : stepQ T σ s' op = stepQ T σ s op := by
 cases op <;> simp only [stepQ]
 case call c =>
  have hc : ∀ x ∈ c.args, get s' x = get s x := fun x hx => h x (by
   simp only [Op.operands, Call.operands]
   cases c.callee <;> simp [hx])
  unfold callD
  split
  ·rename_i x t hcal hargs hts
   rw [hc x (by rw [← Array.mem_toList_iff, hargs]; simp)]
  ·rename_i xs ts hcal
   rw [List.map_congr_left (fun x hx => hc x (by simpa using hx))]
  ·rename_i xs ts hcal
   rw [List.map_congr_left (fun x hx => hc x (by simpa using hx))]
  ·rfl
 case build t ps => rw [parts_congr (fun x hx => h x (by simpa [Op.operands] using hx))]
 case makeFunc f a b => rw [gets_congr (fun x hx => h x (by simp [Op.operands, hx])), gets_congr (fun x hx => h x (by simp [Op.operands, hx]))]
 case slice t x lo hi mx =>
  rw [h x (by simp [Op.operands]), opt_congr (fun y hy => h y (by cases hy; simp [Op.operands])), opt_congr (fun y hy => h y (by cases hy; simp [Op.operands])), opt_congr (fun y hy => h y (by cases hy; simp [Op.operands]))]
 all_goals (try simp only [Op.operands, List.mem_toArray, List.mem_cons, List.not_mem_nil, or_false, forall_eq_or_imp, forall_eq] at h)
 all_goals (try simp only [h])

theorem newD_congr {T : TypeId → TI} {σ : Store} {s s' : List DV} {op : Op} (h : ∀ x ∈ op.operands, get s' x = get s x) : newD T σ s' op = newD T σ s op := by
 cases op <;> simp only [newD]
 case buildSlice t n ps => rw [parts_congr (fun x hx => h x (by simpa [Op.operands] using hx))]
 case convert a b x => rw [h x (by simp [Op.operands])]

theorem cmpD_congr {T : TypeId → TI} {s s' : List DV} {op : Op} (h : ∀ x ∈ op.operands, get s' x = get s x) : cmpD T s' op = cmpD T s op := by
 cases op
 case binOp b t x y t2 =>
  cases b <;> simp only [cmpD]
  all_goals rw [h x (by simp [Op.operands]), h y (by simp [Op.operands])]
 all_goals rfl

theorem stepA_congr {T : TypeId → TI} {σ : Store} {s s' : List DV} {op : Op} (h : ∀ x ∈ op.operands, get s' x = get s x) : stepA T σ s' op = stepA T σ s op := by
 have hc : convR T σ s' op = convR T σ s op := by
  cases op <;> try rfl
  case convert a b x => simp only [convR]; rw [h x (by simp [Op.operands])]
 have hm : makeQ T s' op = makeQ T s op := by
  cases op <;> try rfl
  case makeSlice a x y => simp only [makeQ]; rw [h x (by simp [Op.operands]), h y (by simp [Op.operands])]
 have ha : appQ T σ s' op = appQ T σ s op := by
  cases op <;> try rfl
  case call c =>
   simp only [appQ]
   cases hcc : appCall c with
   | none => rfl
   | some q =>
    obtain ⟨x, y, t, t2⟩ := q
    obtain ⟨_, a2, _⟩ := appCall_some hcc
    simp only
    rw [h x (by simp [Op.operands, Call.operands, a2]), h y (by simp [Op.operands, Call.operands, a2])]
 unfold stepA
 rw [hc, hm, ha, newD_congr h, cmpD_congr h, stepQ_congr h]

theorem stepA_build {T : TypeId → TI} {σ : Store} {s : List DV} {t : TypeId} {n : Nat} {ps : Array (Nat × Operand)} {C : Prop} {d : DV} (h : stepA T σ s (.buildSlice t n ps) = some (C, d)) : ∃ xs, d = .slt xs ∧ xs.length = n := by
 simp only [stepA, convR, makeQ, appQ, cmpD, stepQ] at h
 split at h
 ·rename_i r hr
  simp only [newD] at hr
  split at hr
  ·split at hr
   ·injection h with h
    injection hr with hr
    rw [← hr] at h
    injection h with h1 h2
    exact ⟨_, h2.symm, by simp [groupsD]⟩
   ·cases hr
  ·cases hr
 ·cases h

theorem agree_ops {ops : Array Oper} {o : Oper} {s s' : List DV} (h : agree (o.looksAt ops) s s') : ∀ x ∈ o.op.operands, get s' x = get s x := by
 intro x hx
 refine get_agree (fun t ht => h t ?_)
 subst ht
 simp only [Oper.looksAt, List.mem_append, List.mem_filterMap]
 exact .inl ⟨.tmp t, by simpa using hx, rfl⟩

def runQ (T : TypeId → TI) (dsts : List (Option Tmp)) (τ : Store) : List Oper → List Bool → List DV → Prop → List DV → Prop × List DV × List DV × List Oper × List Bool
 | [], f, s, C, acc => (C, acc, s, [], f)
 | o :: l, f, s, C, acc =>
  match f.headD false with
  | true => (C, acc, s, o :: l, f)
  | false =>
   match onD dsts s o.guard with
   | none => (C, acc, s, o :: l, f)
   | some false => runQ T dsts τ l f.tail (putS s o.dst (.tup [])) C (.tup [] :: acc)
   | some true =>
    match stepA T τ s o.op with
    | some (C', d) => runQ T dsts τ l f.tail (putS s o.dst d) (C ∧ C') (d :: acc)
    | none => (C, acc, s, o :: l, f)

section
variable {P : Program} {T : TypeId → TI} {dsts : List (Option Tmp)} {l rest : List Oper} {f f' : List Bool} {s s' : List DV} {σ σ' : Store} {E : Store → Prop} {K : List DV → Store → Prop} {Q : Exit → St → Prop}

def DrD (P : Program) (E : Store → Prop) (dsts : List (Option Tmp)) (l : List Oper) (f : List Bool) (s : List DV) (σ : Store) (K : List DV → Store → Prop) : Prop :=
 ∀ ops : Array Oper, ops.toList.map (·.dst) = dsts → Drw P E ops l f s σ K

theorem Ev_drawD {id : Nat} (hm : P.follows .mixedOrders = true) (f : List Bool) (E : Store → Prop) (hd : l.map (·.dst) = dsts) (hf : fit l f = true)
  (h : DrD P E dsts l f s σ (fun s τ => Q .normal ⟨s, τ⟩)) : Ev P (.region id l.toArray true) ⟨s, σ⟩ Q :=
 Ev_draw hm f E hf (h _ (by simpa using hd))

theorem DrD_nil (hE : E σ) (h : K s σ) : DrD P E dsts [] f s σ K := fun _ _ => ⟨hE, h⟩

theorem runQ_acc {τ : Store} : ∀ {l : List Oper} {f : List Bool} {s : List DV} {C : Prop} {acc : List DV}, ∃ xs, (runQ T dsts τ l f s C acc).2.1 = xs ++ acc
 | [], f, s, C, acc => ⟨[], rfl⟩
 | o :: l, f, s, C, acc => by
  unfold runQ
  split
  ·exact ⟨[], rfl⟩
  ·split
   ·exact ⟨[], rfl⟩
   ·obtain ⟨xs, h⟩ := runQ_acc (τ := τ) (l := l) (f := f.tail) (s := putS s o.dst (.tup [])) (C := C) (acc := .tup [] :: acc)
    exact ⟨xs ++ [.tup []], by rw [h]; simp⟩
   ·split
    ·rename_i C' d _
     obtain ⟨xs, h⟩ := runQ_acc (τ := τ) (l := l) (f := f.tail) (s := putS s o.dst d) (C := C ∧ C') (acc := d :: acc)
     exact ⟨xs ++ [d], by rw [h]; simp⟩
    ·exact ⟨[], rfl⟩
theorem runQ_C {τ : Store} : ∀ {l : List Oper} {f : List Bool} {s : List DV} {C : Prop} {acc : List DV}, (runQ T dsts τ l f s C acc).1 → C
 | [], f, s, C, acc, h => h
 | o :: l, f, s, C, acc, h => by
  unfold runQ at h
  split at h
  ·exact h
  ·split at h
   ·exact h
   ·exact runQ_C h
   ·split at h
    ·exact (runQ_C h).1
    ·exact h

theorem runQ_weak {τ : Store} {acc : List DV} : ∀ (l : List Oper) (f : List Bool) (s : List DV) (A B : Prop) (acc0 : List DV), (A → B) → ∀ C, runQ T dsts τ l f s A acc0 = (C, acc, s', rest, f') → C → ∃ C', runQ T dsts τ l f s B acc0 = (C', acc, s', rest, f') ∧ C' := by
 intro l
 induction l with
 | nil =>
  intro f s A B acc0 hAB C e hc
  simp only [runQ, Prod.mk.injEq] at e ⊢
  obtain ⟨rfl, e⟩ := e
  exact ⟨B, ⟨rfl, e⟩, hAB hc⟩
 | cons o l ih =>
  intro f s A B acc0 hAB C e hc
  have stop : (A, acc0, s, o :: l, f) = (C, acc, s', rest, f') → ∃ C', (B, acc0, s, o :: l, f) = (C', acc, s', rest, f') ∧ C' := by
   intro e1
   simp only [Prod.mk.injEq] at e1 ⊢
   obtain ⟨e0, e1⟩ := e1
   exact ⟨B, ⟨rfl, e1⟩, hAB (e0 ▸ hc)⟩
  unfold runQ at e ⊢
  cases hf : f.headD false with
  | true => rw [hf] at e; exact stop e
  | false =>
   rw [hf] at e
   simp only at e ⊢
   cases ho : onD dsts s o.guard with
   | none => rw [ho] at e; exact stop e
   | some b =>
    rw [ho] at e
    cases b with
    | false => exact ih _ _ _ _ _ hAB _ e hc
    | true =>
     simp only at e ⊢
     cases h3 : stepA T τ s o.op with
     | none => rw [h3] at e; exact stop e
     | some p =>
      rw [h3] at e
      exact ih _ _ _ _ _ (fun h => ⟨hAB h.1, h.2⟩) _ e hc

theorem DrD_run (hT : TOK P T) (hE : E σ) {acc : List DV} (h : ∀ τ, E τ → ∃ C, runQ T dsts τ l f s True [] = (C, acc, s', rest, f') ∧ C) (k : DrD P E dsts rest f' s' σ K) : DrD P E dsts l f s σ K := by
 suffices H : ∀ (l : List Oper) (f : List Bool) (s : List DV) (acc0 : List DV) (C0 : Store → Prop), (∀ τ, E τ → ∃ C, runQ T dsts τ l f s (C0 τ) acc0 = (C, acc, s', rest, f') ∧ C) → DrD P E dsts l f s σ K from H l f s [] (fun _ => True) h
 intro l
 induction l with
 | nil =>
  intro f s acc0 C0 h
  obtain ⟨C, h1, _⟩ := h σ hE
  simp only [runQ, Prod.mk.injEq] at h1
  obtain ⟨_, _, rfl, rfl, rfl⟩ := h1
  exact k
 | cons o l ih =>
  intro f s acc0 C0 h
  have stop : ∀ C D : Prop, (C, acc0, s, o :: l, f) = (D, acc, s', rest, f') → DrD P E dsts (o :: l) f s σ K := by
   intro C D e
   simp only [Prod.mk.injEq] at e
   obtain ⟨_, _, rfl, rfl, rfl⟩ := e
   exact k
  obtain ⟨C1, h1, hc1⟩ := h σ hE
  unfold runQ at h1
  cases hf : f.headD false with
  | true => rw [hf] at h1; exact stop _ _ h1
  | false =>
   rw [hf] at h1
   simp only at h1
   cases hon : onD dsts s o.guard with
   | none => rw [hon] at h1; exact stop _ _ h1
   | some b =>
    rw [hon] at h1
    cases b with
    | false =>
     have := ih f.tail (putS s o.dst (.tup [])) (.tup [] :: acc0) C0 (fun τ hτ => by
      obtain ⟨C, e, hc⟩ := h τ hτ
      unfold runQ at e
      rw [hf, hon] at e
      exact ⟨C, e, hc⟩)
     intro ops ho
     exact ⟨hE, .inl ⟨onD_wanted ho hon, hf, by rw [putS_eq]; exact this ops ho⟩⟩
    | true =>
     simp only at h1
     cases hst : stepA T σ s o.op with
     | none => rw [hst] at h1; exact stop _ _ h1
     | some p =>
      obtain ⟨C', d⟩ := p
      rw [hst] at h1
      simp only at h1
      have all : ∀ τ, E τ → ∃ C', stepA T τ s o.op = some (C', d) ∧ C' ∧ ∃ C, runQ T dsts τ l f.tail (putS s o.dst d) (C0 τ ∧ C') (d :: acc0) = (C, acc, s', rest, f') ∧ C := by
       intro τ hτ
       obtain ⟨C, e, hc⟩ := h τ hτ
       unfold runQ at e
       rw [hf, hon] at e
       simp only at e
       obtain ⟨xs, hxs⟩ : ∃ xs, acc = xs ++ d :: acc0 := by
        obtain ⟨xs, hx⟩ := runQ_acc (T := T) (dsts := dsts) (τ := σ) (l := l) (f := f.tail) (s := putS s o.dst d) (C := C0 σ ∧ C') (acc := d :: acc0)
        rw [h1] at hx
        exact ⟨xs, hx⟩
       cases hst2 : stepA T τ s o.op with
       | some p2 =>
        obtain ⟨C2, d2⟩ := p2
        rw [hst2] at e
        simp only at e
        obtain ⟨ys, hy⟩ := runQ_acc (T := T) (dsts := dsts) (τ := τ) (l := l) (f := f.tail) (s := putS s o.dst d2) (C := C0 τ ∧ C2) (acc := d2 :: acc0)
        rw [e] at hy
        have hy : acc = ys ++ d2 :: acc0 := hy
        have hd : d2 = d := by
         have e1 := hxs.symm.trans hy
         have e2 := congrArg List.reverse e1
         simp only [List.reverse_append, List.reverse_cons, List.append_assoc] at e2
         have e3 := List.append_cancel_left e2
         simp at e3
         exact e3.1.symm
        subst hd
        have hC2 : C2 := by
         have := runQ_C (T := T) (dsts := dsts) (τ := τ) (l := l) (f := f.tail) (s := putS s o.dst d2) (C := C0 τ ∧ C2) (acc := d2 :: acc0) (by rw [e]; exact hc)
         exact this.2
        exact ⟨C2, rfl, hC2, C, e, hc⟩
       | none =>
        rw [hst2] at e
        simp only [Prod.mk.injEq] at e
        have := congrArg List.length (e.2.1.trans hxs)
        simp at this
        omega
      intro ops ho
      refine ⟨hE, .inr (.inl ⟨onD_wanted ho hon, hf, d, ⟨fun t n ps he => ?_, ?_⟩, ?_⟩)⟩
      ·rw [he] at hst; exact stepA_build hst
      ·intro τ hτ s1 hag
       obtain ⟨C2, hst2, hC2, _⟩ := all τ hτ
       exact Quiet.stepA hT (by rw [stepA_congr (agree_ops hag)]; exact hst2) hC2
      ·rw [putS_eq]
       refine ih f.tail (putS s o.dst d) (d :: acc0) (fun τ => True) (fun τ hτ => ?_) ops ho
       obtain ⟨C2, _, hC2, C, e, hc⟩ := all τ hτ
       exact runQ_weak _ _ _ _ _ _ (fun _ => trivial) C e hc

theorem drw_append {ops : Array Oper} {K1 : List DV → Store → Prop} {l2 : List Oper} : ∀ {l1 : List Oper} {f : List Bool} {s : List DV} {σ : Store}, Drw P E ops l1 f s σ K1 → (∀ s' σ', K1 s' σ' → Drw P E ops l2 (f.drop l1.length) s' σ' K) → Drw P E ops (l1 ++ l2) f s σ K
 | [], f, s, σ, h, k => k s σ h.2
 | o :: l1, f, s, σ, h, k => by
  have e : f.drop (o :: l1).length = f.tail.drop l1.length := by cases f <;> simp
  rw [e] at k
  refine ⟨h.1, ?_⟩
  rcases h.2 with ⟨h1, h2, h3⟩ | ⟨h1, h2, d, h3, h4⟩ | ⟨h1, h2, d, σ', h3, h4⟩
  ·exact .inl ⟨h1, h2, drw_append h3 k⟩
  ·exact .inr (.inl ⟨h1, h2, d, h3, drw_append h4 k⟩)
  ·exact .inr (.inr ⟨h1, h2, d, σ', h3, drw_append h4 k⟩)
theorem DrD_runN (hT : TOK P T) (hE : E σ) (n : Nat) {acc : List DV} {l1 l2 : List Oper} {f2 : List Bool} (h1 : l.take n = l1) (h2 : l.drop n = l2) (hn : n ≤ l.length) (h3 : f.drop n = f2)
  (h : ∀ τ, E τ → ∃ C, runQ T dsts τ l1 f s True [] = (C, acc, s', [], f') ∧ C) (k : DrD P E dsts l2 f2 s' σ K) : DrD P E dsts l f s σ K := by
 intro ops ho
 have hd : DrD P E dsts l1 f s σ (fun s'' σ'' => s'' = s' ∧ σ'' = σ) := DrD_run hT hE h (DrD_nil hE ⟨rfl, rfl⟩)
 have hl : l = l1 ++ l2 := by rw [← h1, ← h2, List.take_append_drop]
 have hlen : l1.length = n := by rw [← h1, List.length_take]; omega
 rw [hl]
 refine drw_append (hd ops ho) ?_
 rintro s'' σ'' ⟨rfl, rfl⟩
 rw [hlen, h3]
 exact k ops ho

theorem calleeD_congr {c : Call} {s s' : List DV} (h : ∀ x ∈ (Op.call c).operands, get s' x = get s x) : calleeD P s' c = calleeD P s c := by
 have hc : ∀ x ∈ c.args, get s' x = get s x := fun x hx => h x (by
  simp only [Op.operands, Call.operands]
  cases c.callee <;> simp [hx])
 unfold calleeD
 split
 ·rename_i x hx
  rw [h x (by simp [Op.operands, Call.operands, hx]), gets_congr hc]
 ·rfl

variable {t : Tmp} {ty : TypeId} {pos : String} {af : Array Edge} {g : Option (Nat × Bool)}

theorem DrD_pure {c : Call} {dst : Option Tmp} (hon : onD dsts s g = some true) (hf : f.headD false = false) {fu : FuncId} {args args' : List DV} {d : DV} (h : calleeD P s c = some (fu, args)) (hle : LeL args args') (hF : Pure P fu args' d) (hat : FnAt P fu) (hE : E σ)
  (hs : putS s dst d = s') (k : DrD P E dsts l f.tail s' σ K) : DrD P E dsts (⟨dst, .call c, ty, pos, af, g⟩ :: l) f s σ K := by
 intro ops ho
 refine ⟨hE, .inr (.inl ⟨onD_wanted ho hon, hf, d, ⟨fun t n ps he => (by cases he), ?_⟩, by rw [putS_eq, hs]; exact k ops ho⟩)⟩
 intro τ hτ s1 hag w0 G a w K Qr hr hK
 refine Does.act (s := ⟨s1, τ⟩) rfl (by rw [calleeD_congr (agree_ops hag)]; exact h) hle (hF τ) hat w0 G a w K Qr hr ?_
 rintro v r σ' G' w' ⟨rfl, rfl⟩ hS' hE' hd
 exact hK v G' w' hS' hE' hd

theorem DrD_own {c : Call} {dst : Option Tmp} (hon : onD dsts s g = some true) (hf : f.headD false = true) {fu : FuncId} {args args' : List DV} {xs : List DV} {e : TypeId} {st : Nat} (h : calleeD P s c = some (fu, args)) (hle : LeL args args') (hF : PureOwn P fu args' xs e st) (hat : FnAt P fu) (hE : E σ)
  (hs : putS s dst (.row σ.rows.length xs.length) = s') (hσ : (⟨σ.rows ++ [some ⟨xs, e, st⟩], σ.boxes, σ.maps⟩ : Store) = σ') (k : DrD P E dsts l f.tail s' σ' K) : DrD P E dsts (⟨dst, .call c, ty, pos, af, g⟩ :: l) f s σ K := by
 intro ops ho
 refine ⟨hE, .inr (.inr ⟨onD_wanted ho hon, hf, _, σ', ?_, by rw [putS_eq, hs]; exact k ops ho⟩)⟩
 subst hσ
 refine ⟨(fun h => by cases h), ?_⟩
 intro s1 hag
 exact Does.act (s := ⟨s1, σ⟩) rfl (by rw [calleeD_congr (agree_ops hag)]; exact h) hle (hF σ) hat

theorem DrD_eff {op : Op} {dst : Option Tmp} (hon : onD dsts s g = some true) (hf : f.headD false = true) {d : DV} (h : ∀ s1, (∀ x ∈ op.operands, get s1 x = get s x) → Effect P ⟨s1, σ⟩ ⟨dst, op, ty, pos, af, g⟩ (one d σ')) (hE : E σ)
  (hs : putS s dst d = s') (k : DrD P E dsts l f.tail s' σ' K) (hrd : isRd ⟨dst, op, ty, pos, af, g⟩ = false) : DrD P E dsts (⟨dst, op, ty, pos, af, g⟩ :: l) f s σ K := by
 intro ops ho
 refine ⟨hE, .inr (.inr ⟨onD_wanted ho hon, hf, d, σ', ?_, by rw [putS_eq, hs]; exact k ops ho⟩)⟩
 refine ⟨(fun h => by rw [hrd] at h; cases h), ?_⟩
 intro s1 hag
 exact (h s1 (agree_ops hag)).act
end
end Go.Val
end

section
namespace Go.Val
open Go.RowKit
set_option linter.unusedSimpArgs false
set_option linter.unusedVariables false

def Store.addRow (σ : Store) (R : Row) : Store := { σ with rows := σ.rows ++ [some R] }

section
variable {P : Program} {T : TypeId → TI} {Q : Exit → St → Prop} {slots slots' : List DV} {σ : Store}

theorem StoreRel.seed {w0 : World} {G : Gh} {w : World} (hS : StoreRel w0 G σ w) {A : Option Addr} (e : TypeId) {st : Nat} (h0 : 0 < st) :
  ∃ G', StoreRel w0 G' (σ.addRow ⟨[], e, st⟩) w ∧ Ext G σ w G' (σ.addRow ⟨[], e, st⟩) w ∧ RelV G' (σ.addRow ⟨[], e, st⟩) w (.row σ.rows.length 0) (.slice A 0 0) := by
 let G' : Gh := { G with rowV := updN G.rowV σ.rows.length (.slice A 0 0) }
 have hx : Ext G σ w G' (σ.addRow ⟨[], e, st⟩) w := by
  refine ⟨fun k hk => ⟨hk, rfl⟩, by simp [Store.addRow], Nat.le_refl _, Nat.le_refl _, fun i R' hi hR' => ?_, fun _ _ => rfl, fun _ _ => rfl, fun k hk => ⟨hk, rfl⟩⟩
  simp only [Store.addRow] at hR'
  rw [List.getElem?_append_left hi] at hR'
  exact ⟨R', hR', rfl, Nat.le_refl _, fun _ => by show updN _ _ _ _ = _; rw [updN_ne _ _ (by omega)]⟩
 refine ⟨G', ⟨hS.below, hS.lt, hS.trk, fun id R hR => ?_, fun id B hB => (hS.boxes id B hB).keep hx rfl (fun _ hk => ⟨hk, rfl⟩), fun id M hM => (hS.maps id M hM).keep hx rfl (fun _ hk => ⟨hk, rfl⟩)⟩, hx, ?_⟩
 ·simp only [Store.addRow] at hR
  rcases Nat.lt_trichotomy id σ.rows.length with hlt | rfl | hgt
  ·rw [List.getElem?_append_left hlt] at hR
   exact (hS.rows id R hR).keep hx (by show updN _ _ _ _ = _; rw [updN_ne _ _ (by omega)]) (fun _ hk => ⟨hk, rfl⟩)
  ·simp at hR
   subst hR
   exact ⟨h0, by simp, A, 0, 0, by show updN _ _ _ _ = _; rw [updN_same], rfl, Nat.le_refl _, .inl rfl⟩
  ·rw [List.getElem?_eq_none (by simp; omega)] at hR
   simp at hR
 ·refine .row _ _ _ (by simp [Store.addRow]) (fun R hR => ?_) (fun R hR _ => by show _ = updN _ _ _ _; rw [updN_same])
  simp [Store.addRow] at hR
  subst hR
  simp

theorem RelS.seed {w0 : World} {G : Gh} {a : Act} {w : World} (hr : RelS w0 G ⟨slots, σ⟩ a w) {t : Tmp} (h : slots[t]? = some (.slt [])) (e : TypeId) {st : Nat} (h0 : 0 < st) :
  ∃ G', RelS w0 G' ⟨slots.set t (.row σ.rows.length 0), σ.addRow ⟨[], e, st⟩⟩ a w ∧ Ext G σ w G' (σ.addRow ⟨[], e, st⟩) w := by
 obtain ⟨v, hv, hd⟩ := hr.2.1.get h
 obtain ⟨A, rfl⟩ : ∃ A, v = .slice A 0 0 := by
  cases hd with
  | slt _ A n st b o vs hn _ _ _ _ => subst hn; exact ⟨A, rfl⟩
 obtain ⟨G', k1, k2, k3⟩ := hr.2.2.seed (A := A) e h0
 refine ⟨G', ⟨hr.1.ext k2, ?_, k1⟩, k2⟩
 have := (hr.2.1.ext k2)
 refine ⟨by simpa using this.1, fun i c u hc hu => ?_⟩
 by_cases e : t = i
 ·subst e
  have ht := (List.getElem?_eq_some_iff.1 h).1
  rw [List.getElem?_set_self ht] at hc
  injection hc with hc
  rw [hv] at hu
  injection hu with hu
  subst hc; subst hu
  exact k3
 ·rw [List.getElem?_set_ne e] at hc
  exact this.2 i c u hc hu

theorem Ev_seed {c : Code} (t : Tmp) (e : TypeId) (st : Nat) (h : slots[t]? = some (.slt [])) (h0 : 0 < st) (hs : slots.set t (.row σ.rows.length 0) = slots') (k : Ev P c ⟨slots', ⟨σ.rows ++ [some ⟨[], e, st⟩], σ.boxes, σ.maps⟩⟩ Q) : Ev P c ⟨slots, σ⟩ Q := by
 subst hs
 intro w0 G0 σ0 W0 G a w hx hr
 obtain ⟨G', k1, k2⟩ := hr.seed h e h0
 exact k w0 G0 σ0 W0 G' a w (hx.trans k2) k1
theorem StoreRel.seedB {w0 : World} {G : Gh} {w : World} (hS : StoreRel w0 G σ w) {b k : Nat} {ty : TypeId} {cs : List DV} (hB : σ.boxes[b]? = some (some ⟨ty, cs⟩)) (hk : cs[k]? = some (.slt [])) (e : TypeId) {st : Nat} (h0 : 0 < st) :
  ∃ G', StoreRel w0 G' ⟨σ.rows ++ [some ⟨[], e, st⟩], σ.boxes.set b (some ⟨ty, cs.set k (.row σ.rows.length 0)⟩), σ.maps⟩ w ∧ Ext G σ w G' ⟨σ.rows ++ [some ⟨[], e, st⟩], σ.boxes.set b (some ⟨ty, cs.set k (.row σ.rows.length 0)⟩), σ.maps⟩ w := by
 obtain ⟨hown, arr, hh, hrel⟩ := hS.boxes b _ hB
 obtain ⟨v, hv, hd⟩ := hrel.get hk
 obtain ⟨A, rfl⟩ : ∃ A, v = .slice A 0 0 := by
  cases hd with
  | slt _ A n st b o vs hn _ _ _ _ => subst hn; exact ⟨A, rfl⟩
 obtain ⟨G', k1, k2, k3⟩ := hS.seed (A := A) e h0
 have hx : Ext G' (σ.addRow ⟨[], e, st⟩) w G' ⟨σ.rows ++ [some ⟨[], e, st⟩], σ.boxes.set b (some ⟨ty, cs.set k (.row σ.rows.length 0)⟩), σ.maps⟩ w :=
  ⟨fun _ h => ⟨h, rfl⟩, Nat.le_refl _, by simp [Store.addRow], Nat.le_refl _, fun i R' hi hR' => ⟨R', hR', rfl, Nat.le_refl _, fun _ => rfl⟩, fun _ _ => rfl, fun _ _ => rfl, fun _ h => ⟨h, rfl⟩⟩
 refine ⟨G', ⟨k1.below, k1.lt, k1.trk, fun id R hR => (k1.rows id R hR).keep hx rfl (fun _ hk => ⟨hk, rfl⟩), fun id B hB' => ?_, fun id M hM => (k1.maps id M hM).keep hx rfl (fun _ hk => ⟨hk, rfl⟩)⟩, k2.trans hx⟩
 by_cases hi : b = id
 ·subst hi
  have hlt := (List.getElem?_eq_some_iff.1 hB).1
  simp only at hB'
  rw [List.getElem?_set_self hlt] at hB'
  simp only [Option.some.injEq] at hB'
  subst hB'
  obtain ⟨a1, arr', a2, a3⟩ := k1.boxes b ⟨ty, cs⟩ hB
  have hbx : G'.boxB b = G.boxB b := k2.boxB b hlt
  have he : arr' = arr := by rw [hbx, hh] at a2; simp only [Option.some.injEq, Obj.cells.injEq] at a2; exact a2.1.symm
  subst he
  refine ⟨a1, arr', a2, ?_⟩
  have h3 := (a3.ext hx)
  refine ⟨by simpa using h3.1, fun i c u hc hu => ?_⟩
  by_cases hik : k = i
  ·subst hik
   have hkl := (List.getElem?_eq_some_iff.1 hk).1
   simp only at hc
   rw [List.getElem?_set_self hkl] at hc
   injection hc with hc
   rw [hv] at hu
   injection hu with hu
   subst hc; subst hu
   exact k3.ext hx
  ·simp only at hc
   rw [List.getElem?_set_ne hik] at hc
   exact h3.2 i c u hc hu
 ·simp only at hB'
  rw [List.getElem?_set_ne hi] at hB'
  exact (k1.boxes id B hB').keep hx rfl (fun _ hk => ⟨hk, rfl⟩)
theorem Ev_seedB {c : Code} (b k : Nat) (e : TypeId) (st : Nat) {ty : TypeId} {cs : List DV} {bx : List (Option Box)} {rw_ : List (Option Row)} (hB : σ.boxes[b]? = some (some ⟨ty, cs⟩)) (hk : cs[k]? = some (.slt [])) (h0 : 0 < st) (hb : σ.boxes.set b (some ⟨ty, cs.set k (.row σ.rows.length 0)⟩) = bx)
  (hr : σ.rows ++ [some ⟨[], e, st⟩] = rw_)
  (q : Ev P c ⟨slots, ⟨rw_, bx, σ.maps⟩⟩ Q) : Ev P c ⟨slots, σ⟩ Q := by
 subst hb; subst hr
 intro w0 G0 σ0 W0 G a w hx hr
 obtain ⟨G', k1, k2⟩ := hr.2.2.seedB hB hk e h0
 exact q w0 G0 σ0 W0 G' a w (hx.trans k2) ⟨hr.1.ext k2, hr.2.1.ext k2, k1⟩
/-! ### a variable, or a row, that is only read from now on; what lies elsewhere in memory is left -/
theorem StoreRel.fixS {w0 : World} {G : Gh} {w : World} (hS : StoreRel w0 G σ w) {b : Nat} {B : Box} (hB : σ.boxes[b]? = some (some B)) :
  ∃ G', StoreRel w0 G' ⟨σ.rows, σ.boxes.set b none, σ.maps⟩ w ∧ Ext G σ w G' ⟨σ.rows, σ.boxes.set b none, σ.maps⟩ w ∧ (∀ d v, RelV G σ w d v → RelV G' ⟨σ.rows, σ.boxes.set b none, σ.maps⟩ w (bfz b B.cs d) v) := by
 obtain ⟨G', h1, h2, h3⟩ := StoreRel.fix (s := ⟨[], σ⟩) hS hB
 have x : Ext G' (St.fix ⟨[], σ⟩ b B.cs).σ w G' ⟨σ.rows, σ.boxes.set b none, σ.maps⟩ w :=
  ⟨fun k hk => ⟨hk, rfl⟩, Nat.le_refl _, by simp [St.fix], Nat.le_refl _, fun i R' hi hR' => ⟨R', hR', rfl, Nat.le_refl _, fun _ => rfl⟩, fun _ _ => rfl, fun _ _ => rfl, fun k hk => ⟨hk, rfl⟩⟩
 refine ⟨G', ⟨h1.below, h1.lt, h1.trk, fun i R hR => (h1.rows i R hR).keep x rfl (fun _ hk => ⟨hk, rfl⟩), fun i B0 hB0 => ?_, fun i M hM => (h1.maps i M hM).keep x rfl (fun _ hk => ⟨hk, rfl⟩)⟩, h2.trans x, fun d v hd => (h3 d v hd).ext x⟩
 have hne : b ≠ i := by
  rintro rfl
  have hb := (List.getElem?_eq_some_iff.1 hB).1
  simp only at hB0
  rw [List.getElem?_set_self hb] at hB0
  simp at hB0
 simp only at hB0
 have hB1 := hB0
 rw [List.getElem?_set_ne hne] at hB1
 have hfx : (St.fix ⟨[], σ⟩ b B.cs).σ.boxes[i]? = some (some { B0 with cs := B0.cs.map (bfz b B.cs) }) := by
  simp only [St.fix, List.getElem?_map, hB0, Option.map_some]
 obtain ⟨k1, arr, k2, _⟩ := h1.boxes i _ hfx
 obtain ⟨_, arr', k3, k4⟩ := hS.boxes i B0 hB1
 rw [h2.boxB i (List.getElem?_eq_some_iff.1 hB1).1] at k1 k2
 refine ⟨by rw [(h2.trans x).boxB i (List.getElem?_eq_some_iff.1 hB1).1]; exact k1, arr', ?_, k4.ext (h2.trans x)⟩
 rw [(h2.trans x).boxB i (List.getElem?_eq_some_iff.1 hB1).1]
 exact k3

variable {σ' : Store}
theorem Ev_fixS {c : Code} (b : Nat) {B : Box} (hB : σ.boxes[b]? = some (some B)) (hs : slots.map (bfz b B.cs) = slots') (hσ : (⟨σ.rows, σ.boxes.set b none, σ.maps⟩ : Store) = σ') (k : Ev P c ⟨slots', σ'⟩ Q) : Ev P c ⟨slots, σ⟩ Q := by
 subst hs; subst hσ
 intro w0 G0 σ0 W0 G a w hx hr
 obtain ⟨G', h1, h2, h3⟩ := StoreRel.fixS hr.2.2 hB
 exact k w0 G0 σ0 W0 G' a w (hx.trans h2) ⟨hr.1.ext h2, hr.2.1.map h3, h1⟩
/-! ### append -/
variable {dsts : List (Option Tmp)} {l : List Oper} {f : List Bool} {E : Store → Prop} {K : List DV → Store → Prop} {dst : Option Tmp} {ty t t2 e : TypeId} {pos : String} {af : Array Edge} {g : Option (Nat × Bool)} {x y : Operand}
theorem eqAllD_bytes {T : TypeId → TI} {e : TypeId} {ez : TI} (he : T e = ez) (h1 : ez.ty = .int .u8) (h2 : ez.size = 1) (d : Nat) (l m : List UInt8) :
  ∀ (is : List Nat), (∀ i ∈ is, i < l.length) → (∀ i ∈ is, i < m.length) → ∃ C : Prop, C ∧ eqAllD T (eqD T (d + 1)) (is.map fun i => (e, i * (T e).size)) (bytes l) (bytes m) = some (C, is.all fun i => l[i]? == m[i]?) := by
 intro is
 induction is with
 | nil => intro _ _; exact ⟨True, trivial, rfl⟩
 | cons i is ih =>
  intro hl hm
  obtain ⟨C, hC, hq⟩ := ih (fun i hi => hl i (by simp [hi])) (fun i hi => hm i (by simp [hi]))
  have hil := hl i (by simp)
  have him := hm i (by simp)
  have p : ∀ (x : List UInt8) (hx : i < x.length), partD T e (bytes x) (i * (T e).size) = some ((T e).ty ≠ .other ∧ i * (T e).size < (bytes x).length, .int .u8 x[i].toNat) := by
   intro x hx
   rw [partD, he, TI.isAgg, h1, h2, Nat.mul_one]
   simp only [Bool.false_eq_true, if_false]
   rw [bytes_get (List.getElem?_eq_getElem hx)]
  have hq1 : eqD T (d + 1) e (.int .u8 l[i].toNat) (.int .u8 m[i].toNat) = some (IntKind.u8 = IntKind.u8, decide ((l[i].toNat : Int) = (m[i].toNat : Int))) := by
   simp only [eqD, he, h1]
  refine ⟨((T e).ty ≠ .other ∧ i * (T e).size < (bytes l).length) ∧ ((T e).ty ≠ .other ∧ i * (T e).size < (bytes m).length) ∧ (IntKind.u8 = IntKind.u8) ∧ C, ⟨⟨by rw [he, h1]; simp, by rw [he, h2, bytes_len]; omega⟩, ⟨by rw [he, h1]; simp, by rw [he, h2, bytes_len]; omega⟩, rfl, hC⟩, ?_⟩
  rw [List.map_cons, eqAllD]
  simp only [p l hil, p m him, hq1, hq, List.all_cons, List.getElem?_eq_getElem hil, List.getElem?_eq_getElem him]
  congr 2
  congr 1
  by_cases e : l[i] = m[i]
  ·simp [e]
  ·have : ¬ ((l[i].toNat : Int) = (m[i].toNat : Int)) := fun h => e (UInt8.toNat_inj.1 (by omega))
   simp [e, this]
theorem eqD_bytes {T : TypeId → TI} {t e : TypeId} {n : Nat} {tz ez : TI} (ht : T t = tz) (ht1 : tz.ty = .array n e) (he : T e = ez) (h1 : ez.ty = .int .u8) (h2 : ez.size = 1) (d : Nat) (l m : List UInt8) (hl : l.length = n) (hm : m.length = n) :
  ∃ C : Prop, C ∧ eqD T (d + 2) t (.agg (bytes l)) (.agg (bytes m)) = some (C, decide (l = m)) := by
 obtain ⟨C, hC, hq⟩ := eqAllD_bytes he h1 h2 d l m (List.range n) (by simp [hl]) (by simp [hm])
 refine ⟨(T e).ty ≠ .other ∧ C, ⟨by rw [he, h1]; simp, hC⟩, ?_⟩
 have e0 : eqD T (d + 2) t (.agg (bytes l)) (.agg (bytes m)) = some ((T e).ty ≠ .other ∧ C, (List.range n).all fun i => l[i]? == m[i]?) := by
  rw [show d + 2 = (d + 1) + 1 from rfl]
  unfold eqD
  rw [ht, ht1]
  simp only [hq]
 rw [e0]
 congr 2
 by_cases e : l = m
 ·subst e; simp
 ·simp only [e, decide_false]
  rw [Bool.eq_false_iff]
  intro hall
  rw [List.all_eq_true] at hall
  apply e
  apply List.ext_getElem?
  intro i
  by_cases hi : i < n
  ·simpa using hall i (by simpa using hi)
  ·rw [List.getElem?_eq_none (by omega), List.getElem?_eq_none (by omega)]

def CutQ (M : List DV) (τ : Store) : Exit → St → Prop
 | .normal, s => LeL s.slots M ∧ s.σ = τ
 | _, _ => False
end
end Go.Val
end

section
namespace Go.Val
open Go.RowKit
attribute [go_sem] Solid_rowK Option.isSome_some convR makeQ appQ appCall srcD runL allocOf storeOf runQ putS onD litG guardD storeD stepA newD cmpD eqD
attribute [go_sem] eqAllD eqTop Ty.plain groupsD List.range_succ_eq_map List.range_zero stepQ callD Val.get gets binD intD
attribute [go_sem] strD unD convD fieldOff fieldD fieldAddrD indexD indexAddrD loadD partD TI.isAgg boundD
attribute [go_sem] boundOk sliceD lenD arrayPtrD buildD fillD nilD mmD DV.shift calleeD List.tail_cons List.headD_cons
attribute [go_sem] List.set_cons_succ List.set_cons_zero List.getD_cons_succ List.getD_cons_zero List.getElem?_cons_succ List.getElem?_cons_zero Option.map_some Option.map_none List.map_cons List.map_nil List.append_nil List.cons_append
attribute [go_sem] List.nil_append List.append_assoc app_len app_get app_get0 app_set app_set0 List.length_cons List.length_nil Array.toList_replicate List.map_replicate ofVal
attribute [go_sem] ofVal0 cells_int cells_bool cells_str cells_agg cells_sl cells_slt cells_row cells_ptr cells_cp cells_nilp cells_mp
attribute [go_sem] cells_fn List.size_toArray Nat.zero_add Nat.reduceAdd Nat.reduceMul Nat.reduceLT Nat.reduceLeDiff Int.reduceLE Int.reduceLT Ty.slice.injEq Ty.ptr.injEq exists_eq_left'
attribute [go_sem] exists_eq bytes_all unbytes_nil unbytes_cons isByte_cons isByte_nil unbytes_bytes ofVal_str0 decide_true decide_false eq_self true_and
attribute [go_sem] and_true ne_eq reduceCtorEq not_false_eq_true Bool.not_true Bool.not_false beq_self_eq_true Bool.true_beq Bool.false_beq Bool.false_eq_true if_true if_false
attribute [go_sem] ite_true ite_false Int.cast_ofNat_Int Int.toNat_natCast Int.toNat_zero Int.natCast_nonneg IntKind.bits Int.reduceToNat Nat.min_def Solid_row0 Solid_int Solid_bool
attribute [go_sem] Solid_str Solid_agg Solid_tup Solid_sl Solid_slt Solid_cp Solid_ptr Solid_nilp Cell1_int Cell1_bool Cell1_str Cell1_sl
attribute [go_sem] Cell1_slt Cell1_cp Cell1_ptr Cell1_nilp FlatD_int FlatD_bool FlatD_str FlatD_sl FlatD_slt FlatD_ptr FlatD_agg all_nil
attribute [go_sem] all_cons ex_agg rep_1 rep_2 rep_3 rep_4 rep_5 rep_6 rep_8 rep_9 List.replicate_zero flat_nil
attribute [go_sem] flat_cons flat_bytes_of Value.cells bytes_len List.length_map over_zero_nil over_zero_cons over_cons_succ List.take_succ_cons List.take_zero List.take_nil List.drop_succ_cons
attribute [go_sem] List.drop_zero List.drop_nil Nat.zero_mul Nat.one_mul Nat.mul_one Nat.add_zero
attribute [go_sem] Cell1_row FlatD_row Solid_mp Cell1_mp FlatD_mp Solid_it Cell1_it FlatD_it Solid_cm Cell1_cm FlatD_cm Solid_fn Cell1_fn FlatD_fn Solid_nilfn Cell1_nilfn FlatD_nilfn cells_it cells_cm isIter cells_nilfn
end Go.Val
end
