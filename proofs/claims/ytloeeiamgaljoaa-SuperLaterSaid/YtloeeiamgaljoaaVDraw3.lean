/- Regions that draw their order and make variables that nothing orders: their numbers are those of the text. -/
import Derived.Test.YtloeeiamgaljoaaVGo6
namespace Go.Val
open Go.RowKit
set_option linter.unusedSimpArgs false
set_option linter.unusedVariables false

theorem wp_const {P : Program} {o : Oper} {a : Act} {w : World} {X : Prop} (h : o.wp P a w (fun _ _ => X) (fun _ _ _ => False)) : X := by
  unfold Oper.wp at h
  generalize (execOp a.eval o).run P w = r at h
  unfold Oper.upon at h
  split at h
  · exact h
  · exact h
  · exact h
  · obtain ⟨e, w', fr, hR, _⟩ := h []
    cases e with
    | returned v => exact hR
    | panicked c => exact hR.elim
    | outgrown => obtain ⟨a, w, h⟩ := hR; exact h.elim
  · rename_i row args w'
    obtain ⟨v, w2, hR, _⟩ := h (Frame.ofRow P row args .normal) []
    exact hR
  · exact h.elim
  · exact h.elim

/-- What is made: at which place of the list, into which slot, of which type. -/
structure Cre where
  at_ : Nat
  tmp : Tmp
  ty : TypeId
  deriving DecidableEq
def boxOf (T : TypeId → TI) (c : Cre) : Option Box := some ⟨c.ty, (ofVal (T c.ty).zero).cells⟩
def isCre (cs : List Cre) (i : Nat) : Bool := cs.any fun c => c.at_ == i
def creT (cs : List Cre) (t : Tmp) : Option Nat := cs.findIdx? fun c => c.tmp == t
/-- The slots with the places of what is made. -/
def pat (cs : List Cre) (n0 : Nat) (s : List DV) : List DV := s.mapIdx fun t x => match creT cs t with | some i => .ptr (n0 + i) 0 | none => x

/-- The listed order, what is made left out. -/
def DrwC (P : Program) (E : Store → Prop) (ops : Array Oper) : List Oper → List Bool → List Bool → List DV → Store → (List DV → Store → Prop) → Prop
  | [], _, _, s, σ, K => E σ ∧ K s σ
  | o :: l, f, g, s, σ, K => E σ ∧
      ((g.headD false = true ∧ DrwC P E ops l f.tail g.tail s σ K)
      ∨ (g.headD false = false ∧ wantedD ops s o = some false ∧ f.headD false = false ∧ DrwC P E ops l f.tail g.tail (St.put ⟨s, σ⟩ o.dst (.tup [])).slots σ K)
      ∨ (g.headD false = false ∧ wantedD ops s o = some true ∧ f.headD false = false ∧ ∃ d, Stable P E ops s o d ∧ DrwC P E ops l f.tail g.tail (St.put ⟨s, σ⟩ o.dst d).slots σ K)
      ∨ (g.headD false = false ∧ wantedD ops s o = some true ∧ f.headD false = true ∧ ∃ d σ', StableE P ops s σ o d σ' ∧ DrwC P E ops l f.tail g.tail (St.put ⟨s, σ⟩ o.dst d).slots σ' K))

/-- The places that are not left out. -/
def keepAt : List Oper → List Bool → List Oper
  | [], _ => []
  | o :: l, g => if g.headD false then keepAt l g.tail else o :: keepAt l g.tail
def keepF : List Oper → List Bool → List Bool → List Bool
  | [], _, _ => []
  | _ :: l, f, g => if g.headD false then keepF l f.tail g.tail else f.headD false :: keepF l f.tail g.tail
theorem DrwC.of {P : Program} {E : Store → Prop} {ops : Array Oper} {K : List DV → Store → Prop} : ∀ {l : List Oper} {f g : List Bool} {s : List DV} {σ : Store},
    E σ → Drw P E ops (keepAt l g) (keepF l f g) s σ K → DrwC P E ops l f g s σ K
  | [], _, _, _, _, _, h => h
  | o :: l, f, g, s, σ, hE, h => by
    unfold keepAt keepF at h
    cases hg : g.headD false with
    | true =>
      rw [hg] at h
      exact ⟨hE, .inl ⟨hg, DrwC.of hE h⟩⟩
    | false =>
      rw [hg] at h
      simp only [Bool.false_eq_true, if_false] at h
      obtain ⟨_, h⟩ := h
      refine ⟨hE, .inr ?_⟩
      rcases h with ⟨h1, h2, h3⟩ | ⟨h1, h2, d, h3, h4⟩ | ⟨h1, h2, d, σ', h3, h4⟩
      · exact .inl ⟨hg, h1, h2, DrwC.of hE h3⟩
      · exact .inr (.inl ⟨hg, h1, h2, d, h3, DrwC.of hE h4⟩)
      · refine .inr (.inr ⟨hg, h1, h2, d, σ', h3, DrwC.of ?_ h4⟩)
        have : ∀ {l : List Oper} {f : List Bool} {s : List DV} {σ : Store}, Drw P E ops l f s σ K → E σ := by
          intro l f s σ h; cases l <;> exact h.1
        exact this h4
theorem DrwC.steps {P : Program} {E : Store → Prop} {ops : Array Oper} {K : List DV → Store → Prop} : ∀ {l : List Oper} {f g : List Bool} {s : List DV} {σ : Store}, DrwC P E ops l f g s σ K →
    ∃ (ss : Nat → List DV) (st : Nat → Store) (d : Nat → DV), ss 0 = s ∧ st 0 = σ ∧ K (ss l.length) (st l.length) ∧ (∀ i, i ≤ l.length → E (st i)) ∧
      ∀ i o, l[i]? = some o → (g.getD i false = true → ss (i + 1) = ss i ∧ st (i + 1) = st i ∧ d i = .undef) ∧ (g.getD i false = false → StepAt P E ops f i o (ss i) (st i) (d i) (st (i + 1)) ∧ ss (i + 1) = putS (ss i) o.dst (d i)) := by
  intro l
  induction l with
  | nil => intro f g s σ h; exact ⟨fun _ => s, fun _ => σ, fun _ => .undef, rfl, rfl, h.2, fun _ _ => h.1, fun i o h => by simp at h⟩
  | cons o l ih =>
    intro f g s σ h
    obtain ⟨hE, h⟩ := h
    have h0f : f.getD 0 false = f.headD false := by cases f <;> rfl
    have h0g : g.getD 0 false = g.headD false := by cases g <;> rfl
    have fin : ∀ (d0 : DV) (s1 : List DV) (σ1 : Store), (g.getD 0 false = true → s1 = s ∧ σ1 = σ ∧ d0 = .undef) → (g.getD 0 false = false → StepAt P E ops f 0 o s σ d0 σ1 ∧ s1 = putS s o.dst d0) → DrwC P E ops l f.tail g.tail s1 σ1 K →
        ∃ (ss : Nat → List DV) (st : Nat → Store) (d : Nat → DV), ss 0 = s ∧ st 0 = σ ∧ K (ss (o :: l).length) (st (o :: l).length) ∧ (∀ i, i ≤ (o :: l).length → E (st i)) ∧
          ∀ i p, (o :: l)[i]? = some p → (g.getD i false = true → ss (i + 1) = ss i ∧ st (i + 1) = st i ∧ d i = .undef) ∧ (g.getD i false = false → StepAt P E ops f i p (ss i) (st i) (d i) (st (i + 1)) ∧ ss (i + 1) = putS (ss i) p.dst (d i)) := by
      intro d0 s1 σ1 h0 h0' h1
      obtain ⟨ss, st, d, e1, e2, e3, e4, e5⟩ := ih h1
      refine ⟨fun i => match i with | 0 => s | i + 1 => ss i, fun i => match i with | 0 => σ | i + 1 => st i, fun i => match i with | 0 => d0 | i + 1 => d i, rfl, rfl, e3, fun i hi => ?_, fun i p hp => ?_⟩
      · cases i with
        | zero => exact hE
        | succ i => exact e4 i (by simpa using hi)
      · cases i with
        | zero =>
          simp only [List.getElem?_cons_zero, Option.some.injEq] at hp
          subst hp
          simp only [e1, e2]
          exact ⟨h0, h0'⟩
        | succ i =>
          simp only [List.getElem?_cons_succ] at hp
          have := e5 i p hp
          simp only
          rw [show g.getD (i + 1) false = g.tail.getD i false by cases g <;> simp]
          refine ⟨this.1, fun hg => ?_⟩
          have h := this.2 hg
          refine ⟨?_, h.2⟩
          have h := h.1
          unfold StepAt at h ⊢
          rw [show f.getD (i + 1) false = f.tail.getD i false by cases f <;> simp]
          exact h
    rcases h with ⟨hg, h1⟩ | ⟨hg, h1, h2, h3⟩ | ⟨hg, h1, h2, d, h3, h4⟩ | ⟨hg, h1, h2, d, σ', h3, h4⟩
    · exact fin .undef s σ (fun _ => ⟨rfl, rfl, rfl⟩) (fun h => by rw [h0g, hg] at h; cases h) h1
    · rw [putS_eq] at h3; exact fin (.tup []) _ σ (fun h => by rw [h0g, hg] at h; cases h) (fun _ => ⟨.inl ⟨h1, by rw [h0f, h2], rfl, rfl⟩, rfl⟩) h3
    · rw [putS_eq] at h4; exact fin d _ σ (fun h => by rw [h0g, hg] at h; cases h) (fun _ => ⟨.inr (.inl ⟨h1, by rw [h0f, h2], rfl, h3⟩), rfl⟩) h4
    · rw [putS_eq] at h4; exact fin d _ σ' (fun h => by rw [h0g, hg] at h; cases h) (fun _ => ⟨.inr (.inr ⟨h1, by rw [h0f, h2], h3⟩), rfl⟩) h4

theorem pat_len (cs : List Cre) (n0 : Nat) (s : List DV) : (pat cs n0 s).length = s.length := List.length_mapIdx
theorem pat_get (cs : List Cre) (n0 : Nat) (s : List DV) (t : Nat) : (pat cs n0 s)[t]? = (s[t]?).map fun x => match creT cs t with | some i => .ptr (n0 + i) 0 | none => x := List.getElem?_mapIdx
theorem pat_getD {cs : List Cre} {n0 : Nat} {s s' : List DV} {t : Nat} (h : s.getD t .undef = s'.getD t .undef) (hl : s.length = s'.length) : (pat cs n0 s).getD t .undef = (pat cs n0 s').getD t .undef := by
  rw [List.getD_eq_getElem?_getD, List.getD_eq_getElem?_getD, pat_get, pat_get]
  rw [List.getD_eq_getElem?_getD, List.getD_eq_getElem?_getD] at h
  by_cases ht : t < s.length
  · rw [List.getElem?_eq_getElem ht, List.getElem?_eq_getElem (hl ▸ ht)] at h ⊢
    simp only [Option.getD_some] at h
    simp only [Option.map_some, Option.getD_some, h]
  · rw [List.getElem?_eq_none (by omega), List.getElem?_eq_none (by omega)]
theorem pat_getD_no {cs : List Cre} {n0 : Nat} {s : List DV} {t : Nat} (h : creT cs t = none) : (pat cs n0 s).getD t .undef = s.getD t .undef := by
  rw [List.getD_eq_getElem?_getD, List.getD_eq_getElem?_getD, pat_get, h]
  cases s[t]? <;> rfl
theorem pat_put {cs : List Cre} {n0 : Nat} {s : List DV} {t : Option Tmp} {d : DV} (h : ∀ x, t = some x → creT cs x = none) : pat cs n0 (putS s t d) = putS (pat cs n0 s) t d := by
  cases t with
  | none => rfl
  | some t =>
    apply List.ext_getElem?
    intro j
    simp only [putS]
    rw [pat_get, List.getElem?_set, List.getElem?_set, pat_len, pat_get]
    by_cases e : t = j
    · subst e
      rw [if_pos rfl, if_pos rfl, h t rfl]
      by_cases hl : t < s.length
      · rw [if_pos hl]; rfl
      · rw [if_neg hl]; rfl
    · rw [if_neg e, if_neg e]
theorem pat_undef {cs : List Cre} {n0 : Nat} {s : List DV} {t : Tmp} {d : DV} {i : Nat} (h : creT cs t = some i) : pat cs n0 (putS s (some t) d) = pat cs n0 s := by
  apply List.ext_getElem?
  intro j
  simp only [putS]
  rw [pat_get, List.getElem?_set, pat_get]
  by_cases e : t = j
  · subst e
    rw [if_pos rfl, h]
    by_cases hl : t < s.length
    · rw [if_pos hl, List.getElem?_eq_getElem hl]; rfl
    · rw [if_neg hl, List.getElem?_eq_none (Nat.le_of_not_lt hl)]
  · rw [if_neg e]

section
variable {P : Program} {T : TypeId → TI} {l : List Oper} {f g : List Bool} {cs : List Cre} {n0 : Nat}

/-- Where all is made that is made, the rest goes as the listed order does. -/
theorem draw_full {slots : List DV} {st0 : Store} {E : Store → Prop} {Q : Exit → St → Prop} {ss : Nat → List DV} {st : Nat → Store} {d : Nat → DV} (hb : ∀ j y, l[j]? = some y → ∀ i ∈ bound y, i < j)
    (hcf : ∀ i j x y, l[i]? = some x → l[j]? = some y → i < j → conflict l.toArray f i j x y = true → i ∈ (closG l).getD j [])
    (hg : ∀ i, g.getD i false = isCre cs i) (hfc : ∀ i, isCre cs i = true → f.getD i false = false) (hno : ∀ i o, l[i]? = some o → isCre cs i = false → ∀ t, o.dst = some t → creT cs t = none)
    (hci : ∀ i o, l[i]? = some o → isCre cs i = true → ∃ t k, o.dst = some t ∧ creT cs t = some k)
    (h0 : ss 0 = pat cs n0 slots) (hK : Q .normal ⟨ss l.length, st l.length⟩) (hE : ∀ i, i ≤ l.length → E (st i))
    (hS : ∀ i o, l[i]? = some o → (g.getD i false = true → ss (i + 1) = ss i ∧ st (i + 1) = st i ∧ d i = .undef) ∧ (g.getD i false = false → StepAt P E l.toArray f i o (ss i) (st i) (d i) (st (i + 1)) ∧ ss (i + 1) = putS (ss i) o.dst (d i)))
    (w0 : World) (G0 : Gh) (σ0 : Store) (W0 : World) : ∀ (fuel : Nat) (A : Array Bool) (G : Gh) (a : Act) (w : World), A.size = l.length → A.toList.countP (fun b => !b) ≤ fuel →
      (∀ j y, l[j]? = some y → A.getD j false = true → ∀ i ∈ bound y, A.getD i false = true) → (∀ i, i < l.length → isCre cs i = true → A.getD i false = true) →
      RelS w0 G ⟨pat cs n0 (slAt l slots d (fun i => A.getD i false) l.length), stAt (wrs l f) st (fun i => A.getD i false) l.length⟩ a w → Ext G0 σ0 W0 G (stAt (wrs l f) st (fun i => A.getD i false) l.length) w →
      wpAny P .any l.toArray (Post w0 G0 σ0 W0 Q) fuel A a w := by
  let LL : Array Bool → Nat → Bool := fun A i => A.getD i false
  have hss : ∀ i, i ≤ l.length → pat cs n0 (slAt l slots d (fun _ => true) i) = ss i := by
    intro i
    induction i with
    | zero => intro _; rw [h0]; rfl
    | succ i ih =>
      intro hi
      have hy : l[i]? = some l[i] := List.getElem?_eq_getElem (by omega)
      simp only [slAt, if_true, hy, Option.bind_some]
      obtain ⟨h1, h2⟩ := hS i _ hy
      cases hgi : g.getD i false with
      | true =>
        obtain ⟨k1, k2, k3⟩ := h1 hgi
        rw [hg] at hgi
        obtain ⟨t, k, ht, hk⟩ := hci i _ hy hgi
        rw [k1, ht, k3, pat_undef hk, ih (by omega)]
      | false =>
        obtain ⟨k1, k2⟩ := h2 hgi
        rw [hg] at hgi
        rw [k2, pat_put (fun x hx => hno i _ hy hgi x hx), ih (by omega)]
  have hstK : ∀ k, k < l.length → (wrs l f).getD k false = false → st (k + 1) = st k := by
    intro k hk hfk
    rw [wrs_get (List.getElem?_eq_getElem hk)] at hfk
    obtain ⟨h1, h2⟩ := hS k _ (List.getElem?_eq_getElem hk)
    cases hgi : g.getD k false with
    | true => exact (h1 hgi).2.1
    | false =>
      rcases (h2 hgi).1 with ⟨_, _, _, h⟩ | ⟨_, _, h, _⟩ | ⟨_, h, h2, _⟩
      · exact h
      · exact h
      · rw [h] at hfk; exact h2 (by simpa using hfk)
  have done : ∀ (A : Array Bool) (G : Gh) (a : Act) (w : World), A.size = l.length → RelS w0 G ⟨pat cs n0 (slAt l slots d (LL A) l.length), stAt (wrs l f) st (LL A) l.length⟩ a w → Ext G0 σ0 W0 G (stAt (wrs l f) st (LL A) l.length) w →
      Region.ready .any l.toArray A = [] → Post w0 G0 σ0 W0 Q .normal a w := by
    intro A G a w hA hr hx hn
    have hall := ready_nil hb hA hn
    have e1 : pat cs n0 (slAt l slots d (LL A) l.length) = ss l.length := by
      rw [← hss _ (Nat.le_refl _)]
      congr 1
      exact slAt_ext (fun j hj => hall j hj)
    have e2 : stAt (wrs l f) st (LL A) l.length = st l.length := by
      rw [stAt_lt (i := l.length) (n := l.length) (fun j hj _ _ => hj) hstK (fun j hj _ _ => hall j hj) _ (Nat.le_refl _), Nat.min_self]
    rw [e1, e2] at hr
    rw [e2] at hx
    exact ⟨_, G, hK, hr, hx⟩
  intro fuel
  induction fuel with
  | zero =>
    intro A G a w hA hc hcl hfull hr hx
    have hn : Region.ready .any l.toArray A = [] := by
      refine List.eq_nil_iff_forall_not_mem.2 fun i hi => ?_
      obtain ⟨h1, h2, _⟩ := mem_ready.1 hi
      have h3 : A.toList.countP (fun b => !b) = 0 := by omega
      rw [List.countP_eq_zero] at h3
      have := h3 A[i] (by simp)
      rw [Array.getD_eq_getD_getElem?, Array.getElem?_eq_getElem (by omega)] at h2
      simp only [Option.getD_some] at h2
      rw [h2] at this
      simp at this
    exact ⟨hn, done A G a w hA hr hx hn⟩
  | succ fuel ih =>
    intro A G a w hA hc hcl hfull hr hx
    refine ⟨done A G a w hA hr hx, fun i hi => ?_⟩
    obtain ⟨hin, hAi, o, ho, hdep⟩ := mem_ready.1 hi
    have hAg : A[i]'(by omega) = false := by
      rw [Array.getD_eq_getD_getElem?, Array.getElem?_eq_getElem (by omega)] at hAi
      simpa using hAi
    have hLi : LL A i = false := by
      show A.getD i false = false
      rw [Array.getD_eq_getD_getElem?, Array.getElem?_eq_getElem (by omega)]
      simpa using hAg
    have hci' : isCre cs i = false := by
      cases h : isCre cs i with
      | false => rfl
      | true => exact absurd ((hfull i hin h).symm.trans hLi) (by simp)
    have hpre : ∀ j x, l[j]? = some x → j < i → conflict l.toArray f j i x o = true → LL A j = true := fun j x hx hj hcf' =>
      clos_closed' hb o ho hcl hdep j (hcf j i x o hx ho hj hcf')
    have hpost : ∀ j y, l[j]? = some y → i < j → conflict l.toArray f i j o y = true → LL A j = false := fun j y hy hj hcf' => by
      cases hLj : LL A j with
      | false => rfl
      | true =>
        have := clos_closed hb hcl j (List.getElem?_eq_some_iff.1 hy).1 hLj i (hcf i j o y ho hy hj hcf')
        exact absurd (hLi.symm.trans this) (by simp)
    have hag : agree (o.looksAt l.toArray) (ss i) (pat cs n0 (slAt l slots d (LL A) l.length)) := by
      intro t ht
      have := slAt_agree (l := l) (s0 := slots) (d := d) (L := LL A) (i := i) (t := t) (fun j hj => by
        cases hy : l[j]? with
        | none => rw [hy] at hj; simp at hj
        | some y =>
          rw [hy] at hj
          simp only [Option.bind_some] at hj
          rcases Nat.lt_trichotomy j i with h | h | h
          · exact ⟨fun _ => h, fun _ => hpre j y hy h (by simp [conflict, hj, ht])⟩
          · subst h; exact ⟨fun h => absurd (hLi.symm.trans h) (by simp), fun h => by omega⟩
          · exact ⟨fun h' => absurd ((hpost j y hy h (by simp [conflict, hj, ht])).symm.trans h') (by simp), fun h' => by omega⟩) l.length
      rw [show min i l.length = i by omega] at this
      rw [← hss i (by omega)]
      exact pat_getD this (by rw [slAt_len, slAt_len])
    have hwd := wanted_looks (s' := pat cs n0 (slAt l slots d (LL A) l.length)) hag
    obtain ⟨hstep, hput⟩ := (hS i o ho).2 (by rw [hg]; exact hci')
    have hpl : LL (A.setIfInBounds i true) = plus (LL A) i := by
      funext j
      show (A.setIfInBounds i true).getD j false = _
      rw [Array.getD_eq_getD_getElem?, Array.getElem?_setIfInBounds]
      by_cases e : i = j
      · subst e; rw [if_pos rfl, if_pos (by omega)]; simp [plus]
      · rw [if_neg e, ← Array.getD_eq_getD_getElem?]
        simp only [plus]
        rw [if_neg (Ne.symm e)]
    have hsl : pat cs n0 (slAt l slots d (plus (LL A) i) l.length) = putS (pat cs n0 (slAt l slots d (LL A) l.length)) o.dst (d i) := by
      have := slAt_plus (l := l) (s0 := slots) (d := d) (L := LL A) (i := i) hLi (fun j hj hLj t ht hjt => by
        rw [ho] at ht
        cases hy : l[j]? with
        | none => rw [hy] at hjt; simp at hjt
        | some y =>
          rw [hy] at hjt
          simp only [Option.bind_some] at ht hjt
          have := hpost j y hy hj (by simp [conflict, ht, hjt])
          rw [hLj] at this; cases this) l.length hin
      rw [this, ho, ← pat_put (fun x hx => hno i o ho hci' x hx)]; rfl
    have next : ∀ (G' : Gh) (v' : Value) (w' : World) (σ' : Store), stAt (wrs l f) st (plus (LL A) i) l.length = σ' → a.defers = [] → RelL G' σ' w' (pat cs n0 (slAt l slots d (LL A) l.length)) a.tmps.toList → RelV G' σ' w' (d i) v' → StoreRel w0 G' σ' w' →
        Ext G0 σ0 W0 G' σ' w' → wpAny P .any l.toArray (Post w0 G0 σ0 W0 Q) fuel (A.setIfInBounds i true) (a.put o.dst v') w' := by
      intro G' v' w' σ' hσ' hd hrl hv hS' hx'
      refine ih _ G' _ w' (by simpa using hA) ?_ ?_ ?_ ?_ ?_
      · rw [Array.toList_setIfInBounds, List.countP_set (by simpa using (by omega : i < A.size))]
        have hp : 0 < A.toList.countP (fun b => !b) := List.countP_pos_iff.2 ⟨A[i], by simp, by rw [hAg]; rfl⟩
        have : A.toList[i]'(by simpa using (by omega : i < A.size)) = false := by simpa using hAg
        rw [this]
        simp only [Bool.not_false, if_true, Bool.not_true, Bool.false_eq_true, if_false]
        omega
      · show ∀ j y, l[j]? = some y → LL (A.setIfInBounds i true) j = true → ∀ k ∈ bound y, LL (A.setIfInBounds i true) k = true
        rw [hpl]
        intro j y hy hLj k hk
        simp only [plus] at hLj ⊢
        by_cases e : k = i
        · rw [if_pos e]
        · rw [if_neg e]
          by_cases e' : j = i
          · subst e'
            rw [ho] at hy; injection hy with hy; subst hy
            exact hdep k hk
          · rw [if_neg e'] at hLj
            exact hcl j y hy hLj k hk
      · intro j hj hcj
        show LL (A.setIfInBounds i true) j = true
        rw [hpl]
        simp only [plus]
        split
        · rfl
        · exact hfull j hj hcj
      · show RelS w0 G' ⟨pat cs n0 (slAt l slots d (LL (A.setIfInBounds i true)) l.length), stAt (wrs l f) st (LL (A.setIfInBounds i true)) l.length⟩ _ w'
        rw [hpl, hsl, hσ']
        refine ⟨by rw [put_defers]; exact hd, ?_, hS'⟩
        have := RelL_put hrl hv o.dst
        rw [putS_eq] at this
        exact this
      · show Ext G0 σ0 W0 G' (stAt (wrs l f) st (LL (A.setIfInBounds i true)) l.length) w'
        rw [hpl, hσ']; exact hx'
    unfold wpOp
    rw [show l.toArray[i]? = some o by simpa using ho]
    simp only
    rcases hstep with ⟨h1, h2, h3, h4⟩ | ⟨h1, h2, h3, h4⟩ | ⟨h1, h2, h3⟩
    · rw [if_neg (by rw [wanted_rel hr.2.1 (hwd.trans h1)]; simp)]
      refine next G _ w _ ?_ hr.1 hr.2.1 (by rw [h3]; exact .tup [] [] rfl (fun i c v hc => by simp at hc)) hr.2.2 hx
      exact stAt_ext (fun j _ hfj => by simp only [plus]; rw [if_neg (by rintro rfl; rw [wrs_get ho, h2] at hfj; simp at hfj)])
    · rw [if_pos (wanted_rel hr.2.1 (hwd.trans h1))]
      refine .inl ?_
      obtain ⟨k, hk, hst⟩ := stAt_mem (f := wrs l f) (st := st) (L := LL A) l.length
      have hr1 : RelS w0 G ⟨pat cs n0 (slAt l slots d (LL A) l.length), stAt (wrs l f) st (LL A) l.length⟩ a w := hr
      have hx1 : Ext G0 σ0 W0 G (stAt (wrs l f) st (LL A) l.length) w := hx
      rw [hst] at hr1 hx1
      refine h4 _ (hE k hk) _ hag w0 G a w _ _ hr1 ?_
      intro v G' w' hS' hE' hv
      refine next G' v w' _ ?_ hr.1 (hr1.2.1.ext hE') hv hS' (hx1.trans hE')
      rw [← hst]
      exact stAt_ext (fun j _ hfj => by simp only [plus]; rw [if_neg (by rintro rfl; rw [wrs_get ho, h2] at hfj; simp at hfj)])
    · rw [if_pos (wanted_rel hr.2.1 (hwd.trans h1))]
      refine .inl ?_
      have eqi : stAt (wrs l f) st (LL A) l.length = st i := by
        rw [stAt_lt (i := i) (n := l.length) (fun j hj hfj hLj => ?_) hstK (fun j hj hji hfj => ?_) _ (Nat.le_refl _), show min i l.length = i by omega]
        · rcases Nat.lt_trichotomy j i with h | h | h
          · exact h
          · subst h; rw [hLi] at hLj; cases hLj
          · have hw := wrs_true (List.getElem?_eq_getElem hj) hfj
            have := hpost j _ (List.getElem?_eq_getElem hj) h (conflict_w h2 hw.1 (.inr hw.2))
            rw [hLj] at this; cases this
        · have hw := wrs_true (List.getElem?_eq_getElem hj) hfj
          exact hpre j _ (List.getElem?_eq_getElem hj) hji (conflict_w hw.1 h2 (.inl hw.2))
      have eqi' : stAt (wrs l f) st (plus (LL A) i) l.length = st (i + 1) := by
        rw [stAt_lt (i := i + 1) (n := l.length) (fun j hj hfj hLj => ?_) hstK (fun j hj hji hfj => ?_) _ (Nat.le_refl _), show min (i + 1) l.length = i + 1 by omega]
        · simp only [plus] at hLj
          by_cases e : j = i
          · omega
          · rw [if_neg e] at hLj
            rcases Nat.lt_trichotomy j i with h | h | h
            · omega
            · omega
            · have hw := wrs_true (List.getElem?_eq_getElem hj) hfj
              have := hpost j _ (List.getElem?_eq_getElem hj) h (conflict_w h2 hw.1 (.inr hw.2))
              rw [hLj] at this; cases this
        · simp only [plus]
          by_cases e : j = i
          · rw [if_pos e]
          · rw [if_neg e]
            have hw := wrs_true (List.getElem?_eq_getElem hj) hfj
            exact hpre j _ (List.getElem?_eq_getElem hj) (by omega) (conflict_w hw.1 h2 (.inl hw.2))
      have hr' : RelS w0 G ⟨pat cs n0 (slAt l slots d (LL A) l.length), stAt (wrs l f) st (LL A) l.length⟩ a w := hr
      have hx1 : Ext G0 σ0 W0 G (stAt (wrs l f) st (LL A) l.length) w := hx
      rw [eqi] at hr' hx1
      refine h3.2 _ hag w0 G a w _ _ hr' ?_
      rintro v r σ' G' w' ⟨rfl, rfl⟩ hS' hE' hd
      exact next G' v w' _ eqi' hr'.1 (hr'.2.1.ext hE') hd hS' (hx1.trans hE')

/-- Blocks that are a variable's each become the variables of these numbers. -/
def adoptG (G : Gh) (n0 k : Nat) (gb : Nat → Nat) : Gh :=
  { G with own := fun x => match (List.range k).find? (fun i => gb i == x) with | some i => .box (n0 + i) | none => G.own x,
           boxB := fun id => if n0 ≤ id ∧ id < n0 + k then gb (id - n0) else G.boxB id }
theorem adoptG_own {G : Gh} {n0 k : Nat} {gb : Nat → Nat} (hinj : ∀ i j, i < k → j < k → gb i = gb j → i = j) {i : Nat} (hi : i < k) : (adoptG G n0 k gb).own (gb i) = .box (n0 + i) := by
  simp only [adoptG]
  cases hf : (List.range k).find? (fun j => gb j == gb i) with
  | none =>
    have := List.find?_eq_none.1 hf i (by simpa using hi)
    simp at this
  | some j =>
    have h1 := List.find?_some hf
    have h2 : j < k := by simpa using List.mem_of_find?_eq_some hf
    have : gb j = gb i := by simpa using h1
    rw [hinj j i h2 hi this]
theorem adoptG_other {G : Gh} {n0 k : Nat} {gb : Nat → Nat} {x : Nat} (h : ∀ i, i < k → gb i ≠ x) : (adoptG G n0 k gb).own x = G.own x := by
  simp only [adoptG]
  cases hf : (List.range k).find? (fun j => gb j == x) with
  | none => rfl
  | some j =>
    have h1 := List.find?_some hf
    have h2 : j < k := by simpa using List.mem_of_find?_eq_some hf
    exact absurd (by simpa using h1) (h j h2)
theorem adopt {w0 : World} {G : Gh} {w : World} {R : List (Option Row)} {bx : List (Option Box)} {M : List (Option (List (DV × DV)))} {bs : List Box} {gb : Nat → Nat} {pn : Nat → Nat}
    (hS : StoreRel w0 G ⟨R, bx, M⟩ w) (hpi : ∀ i j, i < bs.length → j < bs.length → pn i = pn j → i = j)
    (hb : ∀ i B, bs[i]? = some B → G.own (gb i) = .box (bx.length + pn i) ∧ ∃ arr, w.heap[gb i]? = some (.cells arr B.ty (0, 0)) ∧ RelL G ⟨R, bx, M⟩ w B.cs arr.toList) :
    StoreRel w0 (adoptG G bx.length bs.length gb) ⟨R, bx ++ bs.map some, M⟩ w ∧ Ext G ⟨R, bx, M⟩ w (adoptG G bx.length bs.length gb) ⟨R, bx ++ bs.map some, M⟩ w := by
  have hown : ∀ i, i < bs.length → G.own (gb i) = .box (bx.length + pn i) := fun i hi => (hb i _ (List.getElem?_eq_getElem hi)).1
  have hinj : ∀ i j, i < bs.length → j < bs.length → gb i = gb j → i = j := by
    intro i j hi hj h
    have h1 := hown i hi
    have h2 := hown j hj
    rw [h, h2] at h1
    injection h1 with h1
    exact hpi i j hi hj (by omega)
  have hoth : ∀ x, (∀ p, G.own x ≠ .box (bx.length + p)) → (adoptG G bx.length bs.length gb).own x = G.own x := by
    intro x hx
    refine adoptG_other fun i hi h => ?_
    have := hown i hi
    rw [h] at this
    exact hx _ this
  have hE : Ext G ⟨R, bx, M⟩ w (adoptG G bx.length bs.length gb) ⟨R, bx ++ bs.map some, M⟩ w := by
    refine ⟨fun k hk => ⟨by rw [hoth k (fun p => by rw [hk]; simp)]; exact hk, rfl⟩, Nat.le_refl _, by simp, Nat.le_refl _, fun _ R' _ h => ⟨R', h, rfl, Nat.le_refl _, fun _ => rfl⟩, fun id hid => ?_, fun _ _ => rfl⟩
    simp only [adoptG]
    rw [if_neg (by simp only at hid; omega)]
  refine ⟨⟨hS.below, fun k hk => ?_, fun k h1 h2 => ?_, fun id r hr => ?_, fun id B hB => ?_, fun id m hm => ?_⟩, hE⟩
  · by_cases h : ∃ i, i < bs.length ∧ gb i = k
    · obtain ⟨i, hi, rfl⟩ := h
      exact hS.lt _ (by rw [hown i hi]; simp)
    · rw [adoptG_other (fun i hi e => h ⟨i, hi, e⟩)] at hk
      exact hS.lt k hk
  · by_cases h : ∃ i, i < bs.length ∧ gb i = k
    · obtain ⟨i, hi, rfl⟩ := h
      exact hS.trk _ (by rw [hown i hi]; simp) (by rw [hown i hi]; simp)
    · rw [adoptG_other (fun i hi e => h ⟨i, hi, e⟩)] at h1 h2
      exact hS.trk k h1 h2
  · exact (hS.rows id r hr).keep hE rfl (fun k hk => ⟨by rw [hoth k (fun p => by rw [hk]; simp)]; exact hk, rfl⟩)
  · simp only at hB
    rcases Nat.lt_or_ge id bx.length with hlt | hge
    · rw [List.getElem?_append_left hlt] at hB
      refine (hS.boxes id B hB).keep hE ?_ (fun k hk => ⟨by rw [hoth k (fun p => by rw [hk]; intro e; injection e with e; omega)]; exact hk, rfl⟩)
      simp only [adoptG]
      rw [if_neg (by omega)]
    · rw [List.getElem?_append_right hge, List.getElem?_map] at hB
      cases hq : bs[id - bx.length]? with
      | none => rw [hq] at hB; simp at hB
      | some B' =>
        rw [hq] at hB
        simp only [Option.map_some, Option.some.injEq] at hB
        subst hB
        have hi := (List.getElem?_eq_some_iff.1 hq).1
        obtain ⟨_, arr, ha, hr⟩ := hb _ _ hq
        have eb : (adoptG G bx.length bs.length gb).boxB id = gb (id - bx.length) := by
          simp only [adoptG]
          rw [if_pos (by omega)]
        refine ⟨?_, arr, by rw [eb]; exact ha, hr.ext hE⟩
        rw [eb, adoptG_own hinj hi]
        congr 1
        omega
  · exact (hS.maps id m hm).keep hE rfl (fun k hk => ⟨by rw [hoth k (fun p => by rw [hk]; simp)]; exact hk, rfl⟩)

def boxC (T : TypeId → TI) (c : Cre) : Box := ⟨c.ty, (ofVal (T c.ty).zero).cells⟩
/-- The check: what looks at what is made, or writes, stands behind all that is made. -/
def creOK (l : List Oper) (f g : List Bool) (cs : List Cre) : Bool :=
  (cs.all fun c => (match l[c.at_]? with
    | some o => (match o.op with | .alloc e => e == c.ty | _ => false) && o.dst == some c.tmp && o.guard.isNone
    | none => false) && !f.getD c.at_ false) && decide ((cs.map (·.at_)).Nodup) && decide ((cs.map (·.tmp)).Nodup) && decide (g.length ≤ l.length) &&
  (let cl := closB l
   (List.range l.length).all fun j => match l[j]? with
    | none => true
    | some o => (g.getD j false == isCre cs j) && (isCre cs j ||
        ((match o.dst with | some t => (creT cs t).isNone | none => true) &&
          (!(f.getD j false || (o.looksAt l.toArray).any fun t => (creT cs t).isSome) || cs.all fun c => (cl.getD j 0).testBit c.at_))))
theorem isCre_iff {cs : List Cre} {i : Nat} : isCre cs i = true ↔ ∃ c ∈ cs, c.at_ = i := by simp [isCre]
theorem creT_some {cs : List Cre} (hn : (cs.map (·.tmp)).Nodup) {i : Nat} {c : Cre} (h : cs[i]? = some c) : creT cs c.tmp = some i := by
  obtain ⟨hi, rfl⟩ := List.getElem?_eq_some_iff.1 h
  unfold creT
  rw [List.findIdx?_eq_some_iff_getElem]
  refine ⟨hi, by simp, fun j hj => ?_⟩
  simp only [beq_iff_eq, Bool.not_eq_true', beq_eq_false_iff_ne, ne_eq]
  intro e
  have := (List.getElem_inj (i := j) (j := i) (h₀ := by simp; omega) (h₁ := by simp; omega) hn).1 (by simpa using e)
  omega
theorem creT_get {cs : List Cre} {t : Tmp} {i : Nat} (h : creT cs t = some i) : ∃ c, cs[i]? = some c ∧ c.tmp = t := by
  unfold creT at h
  rw [List.findIdx?_eq_some_iff_getElem] at h
  obtain ⟨hi, h1, _⟩ := h
  exact ⟨cs[i], List.getElem?_eq_getElem hi, by simpa using h1⟩
theorem stAt_none {f : List Bool} {st : Nat → Store} {L : Nat → Bool} : ∀ {k}, (∀ j, j < k → f.getD j false = true → L j = false) → stAt f st L k = st 0
  | 0, _ => rfl
  | k + 1, h => by
    simp only [stAt]
    rw [stAt_none (fun j hj => h j (by omega))]
    cases hf : f.getD k false with
    | false => simp
    | true => rw [h k (by omega) hf]; simp
theorem nameds_put {r b m : Nat} {s : List DV} {t : Option Tmp} {d : DV} (h : nameds r b m s = true) (hd : d.named r b m = true) : nameds r b m (putS s t d) = true := by
  cases t with
  | none => exact h
  | some t =>
    rw [nameds_iff] at h ⊢
    intro c hc
    rcases List.mem_or_eq_of_mem_set hc with h1 | h1
    · exact h c h1
    · rw [h1]; exact hd
theorem tmps_put {a : Act} {t u : Tmp} {v x : Value} (h : (a.put (some t) v).tmps.toList[u]? = some x) : (u ≠ t ∧ a.tmps.toList[u]? = some x) ∨ (u = t ∧ x = v) := by
  simp only [Act.put, Array.toList_setIfInBounds, List.getElem?_set] at h
  by_cases e : t = u
  · subst e
    rw [if_pos rfl] at h
    split at h
    · injection h with h; exact .inr ⟨rfl, h.symm⟩
    · cases h
  · rw [if_neg e] at h
    exact .inl ⟨fun h' => e h'.symm, h⟩

/-- EVERY ORDER COMES TO WHAT THE LISTED ONE DOES, whatever is made first. -/
theorem Ev_drawC {id : Nat} {slots : List DV} {R : List (Option Row)} {bx : List (Option Box)} {M : List (Option (List (DV × DV)))} {Q : Exit → St → Prop} (hm : P.follows .mixedOrders = true) (hT : TOK P T)
    (E : Store → Prop) (hE0 : ∀ r, E ⟨R, bx ++ r, M⟩) (hf : fit l f = true) (hc : creOK l f g cs = true) (hty : ∀ c ∈ cs, (T c.ty).ty ≠ .other ∧ nameds 0 0 0 (ofVal (T c.ty).zero).cells = true)
    (h : DrwC P E l.toArray l f g (pat cs bx.length slots) ⟨R, bx ++ (cs.map (boxC T)).map some, M⟩ (fun s τ => Q .normal ⟨s, τ⟩)) : Ev P (.region id l.toArray true) ⟨slots, ⟨R, bx, M⟩⟩ Q := by
  intro w0 G0 σ0 W0 G a w hx hr
  obtain ⟨ss, st, d, h0, hst0, hK, hE, hS⟩ := h.steps
  obtain ⟨hb, hcf⟩ := fit_spec hf
  simp only [creOK, Bool.and_eq_true, List.all_eq_true, List.mem_range, decide_eq_true_eq] at hc
  obtain ⟨⟨⟨⟨hc1, hn1⟩, hn2⟩, hgl⟩, hc2⟩ := hc
  have hcat : ∀ c ∈ cs, ∃ o, l[c.at_]? = some o ∧ o.op = .alloc c.ty ∧ o.dst = some c.tmp ∧ o.guard = none ∧ f.getD c.at_ false = false := by
    intro c hcc
    obtain ⟨h1, h2⟩ := hc1 c hcc
    cases ho : l[c.at_]? with
    | none => rw [ho] at h1; simp at h1
    | some o =>
      rw [ho] at h1
      simp only [Bool.and_eq_true, beq_iff_eq, Option.isNone_iff_eq_none] at h1
      obtain ⟨⟨h3, h4⟩, h5⟩ := h1
      refine ⟨o, rfl, ?_, h4, h5, by simpa using h2⟩
      split at h3
      · rename_i e he
        rw [he]; congr 1; simpa using h3
      · cases h3
  have hcl : ∀ c ∈ cs, c.at_ < l.length := fun c hcc => by obtain ⟨o, ho, _⟩ := hcat c hcc; exact (List.getElem?_eq_some_iff.1 ho).1
  have hat : ∀ c ∈ cs, ∀ c' ∈ cs, c.at_ = c'.at_ → c = c' := by
    intro c h1 c' h2 e
    obtain ⟨i, hi, rfl⟩ := List.getElem_of_mem h1
    obtain ⟨j, hj, rfl⟩ := List.getElem_of_mem h2
    have := (List.getElem_inj (i := i) (j := j) (h₀ := by simpa using hi) (h₁ := by simpa using hj) hn1).1 (by simpa using e)
    subst this; rfl
  have hcnd : cs.Nodup := (List.pairwise_map.1 hn1).imp (fun h e => h (congrArg _ e))
  have hgs : ∀ i, g.getD i false = isCre cs i := by
    intro i
    by_cases hi : i < l.length
    · have := hc2 i hi
      rw [List.getElem?_eq_getElem hi] at this
      simp only [Bool.and_eq_true, beq_iff_eq] at this
      exact this.1
    · rw [List.getD_eq_getElem?_getD, List.getElem?_eq_none (by omega)]
      cases hci : isCre cs i with
      | false => rfl
      | true => obtain ⟨c, hcc, rfl⟩ := isCre_iff.1 hci; exact absurd (hcl c hcc) hi
  have hoth : ∀ i o, l[i]? = some o → isCre cs i = false → (∀ t, o.dst = some t → creT cs t = none) ∧ ((f.getD i false = true ∨ ∃ t ∈ o.looksAt l.toArray, creT cs t ≠ none) → ∀ c ∈ cs, c.at_ ∈ (closG l).getD i []) := by
    intro i o ho hci
    have := hc2 i (List.getElem?_eq_some_iff.1 ho).1
    rw [ho] at this
    simp only [hci, Bool.false_or, Bool.and_eq_true] at this
    obtain ⟨_, h1, h2⟩ := this
    refine ⟨fun t ht => ?_, fun hh c hcc => ?_⟩
    · rw [ht] at h1; simpa using h1
    · rw [Bool.or_eq_true] at h2
      rcases h2 with h2 | h2
      · exfalso
        rw [Bool.not_eq_true', Bool.or_eq_false_iff] at h2
        rcases hh with hh | ⟨t, ht, hh⟩
        · rw [h2.1] at hh; cases hh
        · have := List.any_eq_false.1 h2.2 t ht
          cases hq : creT cs t with
          | none => exact hh hq
          | some i => rw [hq] at this; simp at this
      · exact closB_spec l i c.at_ (List.all_eq_true.1 h2 c hcc)
  have hno : ∀ i o, l[i]? = some o → isCre cs i = false → ∀ t, o.dst = some t → creT cs t = none := fun i o ho hci => (hoth i o ho hci).1
  have hci : ∀ i o, l[i]? = some o → isCre cs i = true → ∃ t k, o.dst = some t ∧ creT cs t = some k := by
    intro i o ho hh
    obtain ⟨c, hcc, rfl⟩ := isCre_iff.1 hh
    obtain ⟨o', ho', _, hd, _⟩ := hcat c hcc
    rw [ho] at ho'; injection ho' with ho'; subst ho'
    obtain ⟨k, hk, rfl⟩ := List.getElem_of_mem hcc
    exact ⟨_, k, hd, creT_some hn2 (List.getElem?_eq_getElem hk)⟩
  have hfc : ∀ i, isCre cs i = true → f.getD i false = false := by
    intro i hh
    obtain ⟨c, hcc, rfl⟩ := isCre_iff.1 hh
    obtain ⟨o, _, _, _, _, hfo⟩ := hcat c hcc
    exact hfo
  have full := draw_full (P := P) (n0 := bx.length) (slots := slots) (st0 := ⟨R, bx, M⟩) hb hcf hgs hfc hno hci h0 hK hE hS w0 G0 σ0 W0
  have hss : ∀ i, i ≤ l.length → pat cs bx.length (slAt l slots d (fun _ => true) i) = ss i := by
    intro i
    induction i with
    | zero => intro _; rw [h0]; rfl
    | succ i ih =>
      intro hi
      have hy : l[i]? = some l[i] := List.getElem?_eq_getElem (by omega)
      simp only [slAt, if_true, hy, Option.bind_some]
      obtain ⟨h1, h2⟩ := hS i _ hy
      cases hgi : g.getD i false with
      | true =>
        obtain ⟨k1, k2, k3⟩ := h1 hgi
        rw [hgs] at hgi
        obtain ⟨t, k, ht, hk⟩ := hci i _ hy hgi
        rw [k1, ht, k3, pat_undef hk, ih (by omega)]
      | false =>
        obtain ⟨k1, k2⟩ := h2 hgi
        rw [hgs] at hgi
        rw [k2, pat_put (fun x hx => hno i _ hy hgi x hx), ih (by omega)]
  have hNM := hr.2.2.names
  have hx0 := hx.boxesLen
  have hx1 := hx.rowsLen
  have hx2 := hx.mapsLen
  simp only at hx0 hx1 hx2
  let LL : Array Bool → Nat → Bool := fun A i => A.getD i false
  have htr : ∀ π : List Cre, (⟨R, bx ++ π.map fun c => some (boxC T c), M⟩ : Store).trunc R.length bx.length M.length = ⟨R, bx, M⟩ := by
    intro π; simp [Store.trunc]
  have complete : ∀ (fuel : Nat) (A : Array Bool) (π : List Cre) (G : Gh) (a : Act) (w : World), A.size = l.length → A.toList.countP (fun b => !b) ≤ fuel →
      (∀ j y, l[j]? = some y → LL A j = true → ∀ i ∈ bound y, LL A i = true) → (∀ c ∈ cs, c ∈ π) → (∀ c ∈ cs, LL A c.at_ = true ↔ c ∈ π) → (∀ j, j < l.length → f.getD j false = true → LL A j = false) →
      RelS w0 G ⟨slAt l slots d (LL A) l.length, ⟨R, bx ++ π.map fun c => some (boxC T c), M⟩⟩ a w →
      (∀ (p : Nat) (c : Cre), π[p]? = some c → ∀ v : Value, a.tmps.toList[c.tmp]? = some v → v = Value.pointer (some ⟨G.boxB (bx.length + p), 0, none⟩)) →
      nameds R.length bx.length M.length (slAt l slots d (LL A) l.length) = true →
      Ext G0 σ0 W0 G ⟨R, bx ++ π.map fun c => some (boxC T c), M⟩ w → wpAny P .any l.toArray (Post w0 G0 σ0 W0 Q) fuel A a w := by
    intro fuel A π G a w hA hcn hcl' hall hiff hfl hr hp hn hx
    have hS1 := hr.2.2.trunc (r := R.length) (b := bx.length) (m := M.length) (Nat.le_refl _) (by simp) (Nat.le_refl _) (by rw [htr]; exact hNM)
    rw [htr] at hS1
    have hL1 := hr.2.1.trunc (r := R.length) (b := bx.length) (m := M.length) (Nat.le_refl _) (by simp) (Nat.le_refl _) hn
    rw [htr] at hL1
    have hE1 := hx.trunc2 hx1 hx0 hx2
    rw [htr] at hE1
    have hpn : ∀ i (hi : i < cs.length), π.idxOf cs[i] < π.length := fun i hi => List.idxOf_lt_length_of_mem (hall _ (List.getElem_mem hi))
    have hpg : ∀ i (hi : i < cs.length), π[π.idxOf cs[i]]? = some cs[i] := fun i hi => by rw [List.getElem?_eq_getElem (hpn i hi), List.getElem_idxOf]
    have key := adopt (bs := cs.map (boxC T)) (gb := fun i => G.boxB (bx.length + π.idxOf (cs.getD i ⟨0, 0, 0⟩))) (pn := fun i => π.idxOf (cs.getD i ⟨0, 0, 0⟩)) hS1 (fun i j hi hj e => by
        simp only [List.length_map] at hi hj
        simp only [List.getD_eq_getElem?_getD, List.getElem?_eq_getElem hi, List.getElem?_eq_getElem hj, Option.getD_some] at e
        have e2 : π[π.idxOf cs[i]]? = π[π.idxOf cs[j]]? := by rw [e]
        rw [hpg i hi, hpg j hj] at e2
        injection e2 with e2
        exact (List.getElem_inj hcnd).1 e2) (fun i B hB => by
        rw [List.getElem?_map] at hB
        cases hq : cs[i]? with
        | none => rw [hq] at hB; simp at hB
        | some c =>
          rw [hq] at hB
          simp only [Option.map_some, Option.some.injEq] at hB
          subst hB
          obtain ⟨hi, rfl⟩ := List.getElem?_eq_some_iff.1 hq
          simp only [List.getD_eq_getElem?_getD, List.getElem?_eq_getElem hi, Option.getD_some]
          obtain ⟨k1, arr, k2, k3⟩ := hr.2.2.boxes (bx.length + π.idxOf cs[i]) (boxC T cs[i]) (by
            simp only
            rw [List.getElem?_append_right (by omega), Nat.add_sub_cancel_left, List.getElem?_map, hpg i hi]; rfl)
          refine ⟨k1, arr, k2, ?_⟩
          have := k3.trunc (r := R.length) (b := bx.length) (m := M.length) (Nat.le_refl _) (by simp) (Nat.le_refl _) (nameds_mono (Nat.zero_le _) (Nat.zero_le _) (Nat.zero_le _) _ (hty _ (List.getElem_mem hi)).2)
          rw [htr] at this
          exact this)
    obtain ⟨key1, key2⟩ := key
    obtain ⟨G', hG'⟩ : ∃ G', G' = adoptG G bx.length (cs.map (boxC T)).length fun i => G.boxB (bx.length + π.idxOf (cs.getD i ⟨0, 0, 0⟩)) := ⟨_, rfl⟩
    rw [← hG'] at key1 key2
    have est : stAt (wrs l f) st (LL A) l.length = ⟨R, bx ++ (cs.map (boxC T)).map some, M⟩ := by
      rw [stAt_none, hst0]
      intro j hj hw
      exact hfl j hj (wrs_true (List.getElem?_eq_getElem hj) hw).1
    refine full fuel A G' a w hA hcn hcl' (fun i hi hh => ?_) (?_ : RelS w0 G' ⟨pat cs bx.length (slAt l slots d (LL A) l.length), stAt (wrs l f) st (LL A) l.length⟩ a w) (?_ : Ext G0 σ0 W0 G' (stAt (wrs l f) st (LL A) l.length) w)
    · obtain ⟨c, hcc, rfl⟩ := isCre_iff.1 hh
      exact (hiff c hcc).2 (hall c hcc)
    · rw [est]
      refine ⟨hr.1, ⟨by rw [pat_len]; exact hL1.1, fun t c v hc' hv => ?_⟩, key1⟩
      rw [pat_get] at hc'
      cases hq : (slAt l slots d (LL A) l.length)[t]? with
      | none => rw [hq] at hc'; simp at hc'
      | some x =>
        rw [hq] at hc'
        simp only [Option.map_some, Option.some.injEq] at hc'
        cases hk : creT cs t with
        | none =>
          rw [hk] at hc'
          simp only at hc'
          subst hc'
          exact (hL1.2 t x v hq hv).ext key2
        | some i =>
          rw [hk] at hc'
          simp only at hc'
          subst hc'
          obtain ⟨c, hci', rfl⟩ := creT_get hk
          obtain ⟨hi, rfl⟩ := List.getElem?_eq_some_iff.1 hci'
          rw [hp _ _ (hpg i hi) v hv]
          have e : G'.boxB (bx.length + i) = G.boxB (bx.length + π.idxOf cs[i]) := by
            rw [hG']
            simp only [adoptG, List.length_map]
            rw [if_pos (by omega), Nat.add_sub_cancel_left, List.getD_eq_getElem?_getD, List.getElem?_eq_getElem hi]
            rfl
          rw [← e]
          exact .ptr _ 0 (by simp; omega)
    · rw [est]
      exact hE1.trans key2
  have pre : ∀ (fuel : Nat) (A : Array Bool) (π : List Cre) (G : Gh) (a : Act) (w : World), A.size = l.length → A.toList.countP (fun b => !b) ≤ fuel →
      (∀ j y, l[j]? = some y → LL A j = true → ∀ i ∈ bound y, LL A i = true) → π.Nodup → (∀ c ∈ π, c ∈ cs) → (∀ c ∈ cs, LL A c.at_ = true ↔ c ∈ π) → (∀ j, j < l.length → f.getD j false = true → LL A j = false) →
      RelS w0 G ⟨slAt l slots d (LL A) l.length, ⟨R, bx ++ π.map fun c => some (boxC T c), M⟩⟩ a w →
      (∀ (p : Nat) (c : Cre), π[p]? = some c → ∀ v : Value, a.tmps.toList[c.tmp]? = some v → v = Value.pointer (some ⟨G.boxB (bx.length + p), 0, none⟩)) →
      nameds R.length bx.length M.length (slAt l slots d (LL A) l.length) = true →
      Ext G0 σ0 W0 G ⟨R, bx ++ π.map fun c => some (boxC T c), M⟩ w → wpAny P .any l.toArray (Post w0 G0 σ0 W0 Q) fuel A a w := by
    intro fuel
    induction fuel with
    | zero =>
      intro A π G a w hA hcn hcl' hnd hsub hiff hfl hr hp hn hx
      refine complete 0 A π G a w hA hcn hcl' (fun c hcc => ?_) hiff hfl hr hp hn hx
      refine (hiff c hcc).1 ?_
      have h3 : A.toList.countP (fun b => !b) = 0 := by omega
      rw [List.countP_eq_zero] at h3
      have hcA : c.at_ < A.size := by rw [hA]; exact hcl c hcc
      have := h3 A[c.at_] (by simp)
      show A.getD c.at_ false = true
      rw [Array.getD_eq_getD_getElem?, Array.getElem?_eq_getElem hcA]
      simpa using this
    | succ fuel ih =>
      intro A π G a w hA hcn hcl' hnd hsub hiff hfl hr hp hn hx
      by_cases hall : ∀ c ∈ cs, c ∈ π
      · exact complete _ A π G a w hA hcn hcl' hall hiff hfl hr hp hn hx
      · refine ⟨fun hn0 => ?_, fun i hi => ?_⟩
        · exfalso
          have hrd := ready_nil hb hA hn0
          exact hall fun c hcc => (hiff c hcc).1 (hrd _ (hcl c hcc))
        obtain ⟨hin, hAi, o, ho, hdep⟩ := mem_ready.1 hi
        have hAg : A[i]'(by omega) = false := by
          rw [Array.getD_eq_getD_getElem?, Array.getElem?_eq_getElem (by omega)] at hAi
          simpa using hAi
        have hLi : LL A i = false := by
          show A.getD i false = false
          rw [Array.getD_eq_getD_getElem?, Array.getElem?_eq_getElem (by omega)]
          simpa using hAg
        have hpl : LL (A.setIfInBounds i true) = plus (LL A) i := by
          funext j
          show (A.setIfInBounds i true).getD j false = _
          rw [Array.getD_eq_getD_getElem?, Array.getElem?_setIfInBounds]
          by_cases e : i = j
          · subst e; rw [if_pos rfl, if_pos (by omega)]; simp [plus]
          · rw [if_neg e, ← Array.getD_eq_getD_getElem?]
            simp only [plus]
            rw [if_neg (Ne.symm e)]
        have hcn' : (A.setIfInBounds i true).toList.countP (fun b => !b) ≤ fuel := by
          rw [Array.toList_setIfInBounds, List.countP_set (by simpa using (by omega : i < A.size))]
          have hp : 0 < A.toList.countP (fun b => !b) := List.countP_pos_iff.2 ⟨A[i], by simp, by rw [hAg]; rfl⟩
          have : A.toList[i]'(by simpa using (by omega : i < A.size)) = false := by simpa using hAg
          rw [this]
          simp only [Bool.not_false, if_true, Bool.not_true, Bool.false_eq_true, if_false]
          omega
        have hclp : ∀ j y, l[j]? = some y → LL (A.setIfInBounds i true) j = true → ∀ k ∈ bound y, LL (A.setIfInBounds i true) k = true := by
          rw [hpl]
          intro j y hy hLj k hk
          simp only [plus] at hLj ⊢
          by_cases e : k = i
          · rw [if_pos e]
          · rw [if_neg e]
            by_cases e' : j = i
            · subst e'
              rw [ho] at hy; injection hy with hy; subst hy
              exact hdep k hk
            · rw [if_neg e'] at hLj
              exact hcl' j y hy hLj k hk
        cases hci' : isCre cs i with
        | true =>
          obtain ⟨c, hcc, rfl⟩ := isCre_iff.1 hci'
          obtain ⟨o', ho', hop, hdst, hgrd, hfo⟩ := hcat c hcc
          rw [ho] at ho'; injection ho' with ho'; subst ho'
          have hcπ : c ∉ π := fun h => absurd ((hiff c hcc).2 h) (by rw [hLi]; simp)
          have hde : d c.at_ = .undef := ((hS _ o ho).1 (by rw [hgs]; exact hci')).2.2
          have hsl : slAt l slots d (plus (LL A) c.at_) l.length = putS (slAt l slots d (LL A) l.length) o.dst .undef := by
            have := slAt_plus (l := l) (s0 := slots) (d := d) (L := LL A) (i := c.at_) hLi (fun j hj hLj t ht hjt => by
              rw [ho] at ht
              simp only [Option.bind_some, hdst, Option.some.injEq] at ht
              subst ht
              cases hy : l[j]? with
              | none => rw [hy] at hjt; simp at hjt
              | some y =>
                rw [hy] at hjt
                simp only [Option.bind_some] at hjt
                cases hcj : isCre cs j with
                | false =>
                  have := hno j y hy hcj _ hjt
                  obtain ⟨k, hk, rfl⟩ := List.getElem_of_mem hcc
                  rw [creT_some hn2 (List.getElem?_eq_getElem hk)] at this
                  cases this
                | true =>
                  obtain ⟨c', hcc', rfl⟩ := isCre_iff.1 hcj
                  obtain ⟨o2, ho2, _, hd2, _⟩ := hcat c' hcc'
                  rw [hy] at ho2; injection ho2 with ho2; subst ho2
                  rw [hjt] at hd2
                  injection hd2 with hd2
                  obtain ⟨k, hk, rfl⟩ := List.getElem_of_mem hcc
                  obtain ⟨k', hk', rfl⟩ := List.getElem_of_mem hcc'
                  have q1 := creT_some hn2 (List.getElem?_eq_getElem hk)
                  have q2 := creT_some hn2 (List.getElem?_eq_getElem hk')
                  rw [hd2, q2] at q1
                  injection q1 with q1
                  subst q1
                  omega) l.length hin
            rw [this, ho, hde]; rfl
          unfold wpOp
          rw [show l.toArray[c.at_]? = some o by simpa using ho]
          simp only
          have hwt : Region.wanted o (yielded l.toArray a.tmps) = true := by unfold Region.wanted; rw [hgrd]
          rw [if_pos hwt]
          refine .inl ?_
          have hact := (effD_sound (P := P) hT (slots := slAt l slots d (LL A) l.length) (σ := ⟨R, bx ++ π.map fun c => some (boxC T c), M⟩) (o := o) (C := (T c.ty).ty ≠ .other) (d := .ptr (bx ++ π.map fun c => some (boxC T c)).length 0) (σ' := ⟨R, (bx ++ π.map fun c => some (boxC T c)) ++ [some (boxC T c)], M⟩) (by rw [hop]; rfl) (hty c hcc).1).act
          refine hact w0 G a w _ _ hr ?_
          rintro v r σ' G' w' ⟨rfl, rfl⟩ hS' hE' hv
          have eπ : (⟨R, (bx ++ π.map fun c => some (boxC T c)) ++ [some (boxC T c)], M⟩ : Store) = ⟨R, bx ++ (π ++ [c]).map fun c => some (boxC T c), M⟩ := by simp
          rw [eπ] at hS' hE' hv
          refine ih (A.setIfInBounds c.at_ true) (π ++ [c]) G' _ w' (by simpa using hA) hcn' hclp ?_ ?_ ?_ ?_ ?_ ?_ ?_ (hx.trans hE')
          · rw [List.nodup_append]
            exact ⟨hnd, by simp, fun x hx y hy => by rw [List.mem_singleton.1 hy]; rintro rfl; exact hcπ hx⟩
          · intro x hx'
            rcases List.mem_append.1 hx' with h' | h'
            · exact hsub x h'
            · rw [List.mem_singleton.1 h']; exact hcc
          · intro x hxc
            rw [hpl]
            simp only [plus, List.mem_append, List.mem_singleton]
            by_cases e : x.at_ = c.at_
            · rw [if_pos e]
              simp [hat x hxc c hcc e]
            · rw [if_neg e, hiff x hxc]
              constructor
              · exact .inl
              · rintro (h' | h')
                · exact h'
                · exact absurd (congrArg Cre.at_ h') e
          · intro j hj hfj
            rw [hpl]
            simp only [plus]
            rw [if_neg (by rintro rfl; rw [hfo] at hfj; cases hfj)]
            exact hfl j hj hfj
          · rw [hpl, hsl]
            refine ⟨by rw [put_defers]; exact hr.1, ?_, hS'⟩
            have := RelL_put (hr.2.1.ext hE') (.undef v) o.dst
            rw [putS_eq] at this
            exact this
          · intro p x hpx u hu
            rw [hdst] at hu
            rcases Nat.lt_trichotomy p π.length with hlt | heq | hgt
            · rw [List.getElem?_append_left hlt] at hpx
              have hxm := List.mem_of_getElem? hpx
              have hxc := hsub x hxm
              rcases tmps_put hu with ⟨h1, h2⟩ | ⟨h1, h2⟩
              · rw [hp p x hpx u h2, hE'.boxB _ (by simp; omega)]
              · exfalso
                obtain ⟨k, hk, rfl⟩ := List.getElem_of_mem hcc
                obtain ⟨k', hk', rfl⟩ := List.getElem_of_mem hxc
                have q1 := creT_some hn2 (List.getElem?_eq_getElem hk)
                have q2 := creT_some hn2 (List.getElem?_eq_getElem hk')
                rw [h1, q1] at q2
                injection q2 with q2
                subst q2
                exact hcπ hxm
            · subst heq
              rw [List.getElem?_append_right (Nat.le_refl _), Nat.sub_self] at hpx
              simp only [List.getElem?_cons_zero, Option.some.injEq] at hpx
              subst hpx
              rcases tmps_put hu with ⟨h1, h2⟩ | ⟨h1, h2⟩
              · exact absurd rfl h1
              · subst h2
                have el : (bx ++ π.map fun c => some (boxC T c)).length = bx.length + π.length := by simp
                rw [el] at hv
                cases hv
                rfl
            · rw [List.getElem?_append_right (by omega)] at hpx
              rw [List.getElem?_eq_none (by simp; omega)] at hpx
              cases hpx
          · rw [hpl, hsl]
            exact nameds_put hn rfl
        | false =>
          have hlate : ¬ (f.getD i false = true ∨ ∃ t ∈ o.looksAt l.toArray, creT cs t ≠ none) := fun hh =>
            hall fun c hcc => (hiff c hcc).1 (clos_closed' hb o ho hcl' hdep _ ((hoth i o ho hci').2 hh c hcc))
          have hfi : f.getD i false = false := by
            cases hq : f.getD i false with
            | false => rfl
            | true => exact absurd (.inl hq) hlate
          have hlk : ∀ t ∈ o.looksAt l.toArray, creT cs t = none := fun t ht => by
            cases hq : creT cs t with
            | none => rfl
            | some k => exact absurd (.inr ⟨t, ht, by rw [hq]; simp⟩) hlate
          have hpre : ∀ j x, l[j]? = some x → j < i → conflict l.toArray f j i x o = true → LL A j = true := fun j x hx hj hcf' =>
            clos_closed' hb o ho hcl' hdep j (hcf j i x o hx ho hj hcf')
          have hpost : ∀ j y, l[j]? = some y → i < j → conflict l.toArray f i j o y = true → LL A j = false := fun j y hy hj hcf' => by
            cases hLj : LL A j with
            | false => rfl
            | true =>
              have := clos_closed hb hcl' j (List.getElem?_eq_some_iff.1 hy).1 hLj i (hcf i j o y ho hy hj hcf')
              exact absurd (hLi.symm.trans this) (by simp)
          have hag : agree (o.looksAt l.toArray) (ss i) (slAt l slots d (LL A) l.length) := by
            intro t ht
            have := slAt_agree (l := l) (s0 := slots) (d := d) (L := LL A) (i := i) (t := t) (fun j hj => by
              cases hy : l[j]? with
              | none => rw [hy] at hj; simp at hj
              | some y =>
                rw [hy] at hj
                simp only [Option.bind_some] at hj
                rcases Nat.lt_trichotomy j i with h | h | h
                · exact ⟨fun _ => h, fun _ => hpre j y hy h (by simp [conflict, hj, ht])⟩
                · subst h; exact ⟨fun h => absurd (hLi.symm.trans h) (by simp), fun h => by omega⟩
                · exact ⟨fun h' => absurd ((hpost j y hy h (by simp [conflict, hj, ht])).symm.trans h') (by simp), fun h' => by omega⟩) l.length
            rw [this, show min i l.length = i by omega, ← hss i (by omega), pat_getD_no (hlk t ht)]
          have hwd := wanted_looks (s' := slAt l slots d (LL A) l.length) hag
          obtain ⟨hstep, hput⟩ := (hS i o ho).2 (by rw [hgs]; exact hci')
          have hsl : slAt l slots d (plus (LL A) i) l.length = putS (slAt l slots d (LL A) l.length) o.dst (d i) := by
            have := slAt_plus (l := l) (s0 := slots) (d := d) (L := LL A) (i := i) hLi (fun j hj hLj t ht hjt => by
              rw [ho] at ht
              cases hy : l[j]? with
              | none => rw [hy] at hjt; simp at hjt
              | some y =>
                rw [hy] at hjt
                simp only [Option.bind_some] at ht hjt
                have := hpost j y hy hj (by simp [conflict, ht, hjt])
                rw [hLj] at this; cases this) l.length hin
            rw [this, ho]; rfl
          have next : ∀ (G' : Gh) (v' : Value) (w' : World), RelL G' ⟨R, bx ++ π.map fun c => some (boxC T c), M⟩ w' (slAt l slots d (LL A) l.length) a.tmps.toList → RelV G' ⟨R, bx ++ π.map fun c => some (boxC T c), M⟩ w' (d i) v' → (d i).named R.length bx.length M.length = true →
              StoreRel w0 G' ⟨R, bx ++ π.map fun c => some (boxC T c), M⟩ w' → Ext G ⟨R, bx ++ π.map fun c => some (boxC T c), M⟩ w G' ⟨R, bx ++ π.map fun c => some (boxC T c), M⟩ w' → wpAny P .any l.toArray (Post w0 G0 σ0 W0 Q) fuel (A.setIfInBounds i true) (a.put o.dst v') w' := by
            intro G' v' w' hrl hv hnd' hS' hE'
            refine ih (A.setIfInBounds i true) π G' _ w' (by simpa using hA) hcn' hclp hnd hsub ?_ ?_ ?_ ?_ ?_ (hx.trans hE')
            · intro x hxc
              rw [hpl]
              simp only [plus]
              rw [if_neg (by intro e; rw [isCre_iff.2 ⟨x, hxc, e⟩] at hci'; cases hci')]
              exact hiff x hxc
            · intro j hj hfj
              rw [hpl]
              simp only [plus]
              rw [if_neg (by rintro rfl; rw [hfi] at hfj; cases hfj)]
              exact hfl j hj hfj
            · rw [hpl, hsl]
              refine ⟨by rw [put_defers]; exact hr.1, ?_, hS'⟩
              have := RelL_put hrl hv o.dst
              rw [putS_eq] at this
              exact this
            · intro p x hpx u hu
              have hxc := hsub x (List.mem_of_getElem? hpx)
              have hpl' := (List.getElem?_eq_some_iff.1 hpx).1
              rw [hE'.boxB _ (by simp; omega)]
              cases hd : o.dst with
              | none => rw [hd] at hu; exact hp p x hpx u hu
              | some t =>
                rw [hd] at hu
                rcases tmps_put hu with ⟨h1, h2⟩ | ⟨h1, h2⟩
                · exact hp p x hpx u h2
                · exfalso
                  obtain ⟨k', hk', rfl⟩ := List.getElem_of_mem hxc
                  have q := hno i o ho hci' t hd
                  rw [← h1, creT_some hn2 (List.getElem?_eq_getElem hk')] at q
                  cases q
            · rw [hpl, hsl]
              exact nameds_put hn hnd'
          unfold wpOp
          rw [show l.toArray[i]? = some o by simpa using ho]
          simp only
          rcases hstep with ⟨h1, h2, h3, h4⟩ | ⟨h1, h2, h3, h4⟩ | ⟨h1, h2, h3⟩
          · rw [if_neg (by rw [wanted_rel hr.2.1 (hwd.trans h1)]; simp)]
            exact next G _ w hr.2.1 (by rw [h3]; exact .tup [] [] rfl (fun i c v hc => by simp at hc)) (by rw [h3]; rfl) hr.2.2 (Ext.refl _ _ _)
          · rw [if_pos (wanted_rel hr.2.1 (hwd.trans h1))]
            refine .inl ?_
            have hS1 := hr.2.2.trunc (r := R.length) (b := bx.length) (m := M.length) (Nat.le_refl _) (by simp) (Nat.le_refl _) (by rw [htr]; exact hNM)
            rw [htr] at hS1
            have hL1 := hr.2.1.trunc (r := R.length) (b := bx.length) (m := M.length) (Nat.le_refl _) (by simp) (Nat.le_refl _) hn
            rw [htr] at hL1
            have hnamed : (d i).named R.length bx.length M.length = true := by
              have hE00 := hE0 []
              rw [List.append_nil] at hE00
              refine wp_const (h4 ⟨R, bx, M⟩ hE00 _ hag w0 G a w (fun _ _ => (d i).named R.length bx.length M.length = true) (fun _ _ _ => False) ⟨hr.1, hL1, hS1⟩ ?_)
              intro v G' w' _ _ hv
              exact hv.named
            refine h4 _ (hE0 _) _ hag w0 G a w _ _ hr ?_
            intro v G' w' hS' hE' hv
            exact next G' v w' (hr.2.1.ext hE') hv hnamed hS' hE'
          · rw [hfi] at h2; cases h2
  have hfalse : ∀ j, LL (Array.replicate l.length false) j = false := by
    intro j
    show (Array.replicate l.length false).getD j false = false
    rw [Array.getD_eq_getD_getElem?, Array.getElem?_replicate]
    split <;> rfl
  have e1 : slAt l slots d (LL (Array.replicate l.length false)) l.length = slots := by
    have : ∀ k, slAt l slots d (LL (Array.replicate l.length false)) k = slots := by
      intro k
      induction k with
      | zero => rfl
      | succ k ih => simp only [slAt]; rw [hfalse k]; exact ih
    exact this _
  have e0 : (⟨R, bx ++ ([] : List Cre).map fun c => some (boxC T c), M⟩ : Store) = ⟨R, bx, M⟩ := by simp
  refine wp_region_any hm ?_
  simp only [List.size_toArray]
  refine pre l.length (Array.replicate l.length false) [] G a _ (by simp) ?_ ?_ List.nodup_nil (by simp) ?_ ?_ ?_ ?_ ?_ ?_
  · exact Nat.le_trans List.countP_le_length (by simp)
  · intro j y _ h; rw [hfalse j] at h; cases h
  · intro c _; rw [hfalse]; simp
  · intro j _ _; exact hfalse j
  · rw [e1, e0]
    exact ⟨hr.1, hr.2.1.ext (drew_ext _), drew_rel _ hr.2.2⟩
  · intro p c h; simp at h
  · rw [e1]; exact hr.2.1.names
  · rw [e0]; exact hx.trans (drew_ext _)
end
/-! ### the short rule -/
def setsC : List Cre → Nat → List DV → List DV
  | [], _, s => s
  | c :: cs, n, s => setsC cs (n + 1) (s.set c.tmp (.ptr n 0))
theorem setsC_nil (n : Nat) (s : List DV) : setsC [] n s = s := rfl
theorem setsC_cons (c : Cre) (cs : List Cre) (n : Nat) (s : List DV) : setsC (c :: cs) n s = setsC cs (n + 1) (s.set c.tmp (.ptr n 0)) := rfl
theorem setsC_get : ∀ (cs : List Cre) (n : Nat) (s : List DV) (t : Nat), (cs.map (·.tmp)).Nodup → (setsC cs n s)[t]? = (s[t]?).map fun x => match creT cs t with | some i => .ptr (n + i) 0 | none => x
  | [], n, s, t, _ => by simp [setsC, creT]
  | c :: cs, n, s, t, hn => by
    rw [List.map_cons, List.nodup_cons] at hn
    rw [setsC, setsC_get cs (n + 1) _ t hn.2, List.getElem?_set]
    have hc : creT (c :: cs) t = if c.tmp == t then some 0 else (creT cs t).map (· + 1) := by unfold creT; rw [List.findIdx?_cons]
    rw [hc]
    by_cases e : c.tmp = t
    · subst e
      have hno : creT cs c.tmp = none := by
        cases h : creT cs c.tmp with
        | none => rfl
        | some i =>
          obtain ⟨c', h1, h2⟩ := creT_get h
          exact absurd (List.mem_map.2 ⟨c', List.mem_of_getElem? h1, h2⟩) hn.1
      rw [if_pos rfl, hno]
      simp only [beq_self_eq_true, if_true, Nat.add_zero]
      by_cases hl : c.tmp < s.length
      · rw [if_pos hl, List.getElem?_eq_getElem hl]; rfl
      · rw [if_neg hl, List.getElem?_eq_none (Nat.le_of_not_lt hl)]; rfl
    · rw [if_neg e]
      have e' : (c.tmp == t) = false := by simpa using e
      rw [e']
      simp only [Bool.false_eq_true, if_false]
      cases creT cs t with
      | none => rfl
      | some i => simp only [Option.map_some, Nat.add_assoc, Nat.add_comm 1 i]
theorem pat_sets {cs : List Cre} (hn : (cs.map (·.tmp)).Nodup) (n : Nat) (s : List DV) : pat cs n s = setsC cs n s := by
  apply List.ext_getElem?
  intro t
  rw [pat_get, setsC_get cs n s t hn]
theorem keepAt_nil (g : List Bool) : keepAt [] g = [] := rfl
theorem keepAt_t (o : Oper) (l : List Oper) (g : List Bool) : keepAt (o :: l) (true :: g) = keepAt l g := rfl
theorem keepAt_f (o : Oper) (l : List Oper) (g : List Bool) : keepAt (o :: l) (false :: g) = o :: keepAt l g := rfl
/-- What writes, but for what is made. -/
def maskF : List Bool → List Bool → List Bool
  | [], _ => []
  | b :: f, g => (b && !g.headD false) :: maskF f g.tail
section
variable {P : Program} {T : TypeId → TI} {dsts : List (Option Tmp)} {l l' : List Oper} {s s' : List DV} {σ : Store} {Q : Exit → St → Prop} {bs : List (Option Box)}
theorem D_startC {id : Nat} {R : List (Option Row)} {bx b1 : List (Option Box)} {M : List (Option (List (DV × DV)))} (own : List FuncId) (cs : List Cre) (g f1 : List Bool) (hm : P.follows .mixedOrders = true) (hT : TOK P T)
    (h : DrD P (EP bx) dsts l' f1 s' ⟨R, b1, M⟩ (fun s τ => Q .normal ⟨s, τ⟩))
    (hf1 : keepF l (maskF (flagsOf own l) g) g = f1 := by decide +kernel)
    (hd : l.map (·.dst) = dsts := by simp only [List.map_cons, List.map_nil]; exact rfl)
    (hl : keepAt l g = l' := by simp only [keepAt_t, keepAt_f, keepAt_nil]; exact rfl)
    (hs : setsC cs bx.length s = s' := by simp only [setsC_cons, setsC_nil, List.set_cons_succ, List.set_cons_zero, app_len, List.length_cons, List.length_nil, Nat.zero_add, Nat.add_assoc, Nat.reduceAdd]; exact rfl)
    (hbs : (cs.map (boxC T)).map some = bs := by simp (maxSteps := 1000000) (disch := omega) only [go_sem, boxC, List.map_cons, List.map_nil]; exact rfl)
    (hb1 : bx ++ bs = b1 := by (try simp only [List.append_assoc, List.cons_append, List.nil_append]) <;> exact rfl)
    (hn : (cs.map (·.tmp)).Nodup := by decide)
    (hf : fit l (maskF (flagsOf own l) g) = true := by decide +kernel) (hc : creOK l (maskF (flagsOf own l) g) g cs = true := by decide +kernel)
    (hty : ∀ c ∈ cs, (T c.ty).ty ≠ .other ∧ nameds 0 0 0 (ofVal (T c.ty).zero).cells = true := by
      simp only [List.forall_mem_cons, forallT_nil, go_sem, nameds, DV.named, Bool.and_self, ne_eq, reduceCtorEq, not_false_eq_true, and_self, true_and]) : Ev P (.region id l.toArray true) ⟨s, ⟨R, bx, M⟩⟩ Q := by
  subst hb1; subst hf1
  refine Ev_drawC (R := R) (bx := bx) (M := M) (g := g) (cs := cs) hm hT (EP bx) (fun r => ⟨r, rfl⟩) hf hc hty (DrwC.of ⟨_, rfl⟩ ?_)
  rw [pat_sets hn, hs, hbs, hl]
  exact h l.toArray (by simpa using hd)
end
end Go.Val
