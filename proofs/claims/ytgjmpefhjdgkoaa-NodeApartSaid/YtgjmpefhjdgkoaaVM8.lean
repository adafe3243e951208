/- Drawn regions in two parts: what is read ahead of a place is asked of the stores ahead of it, what is read behind it of those behind; calls there that write a variable, or hand back what is new. -/
import Derived.Test.YtgjmpefhjdgkoaaVM7
import Derived.Test.YtgjmpefhjdgkoaaVM6
section
namespace Go.Val
open Go.RowKit
set_option linter.unusedSimpArgs false
set_option linter.unusedVariables false
section
variable {P : Program} {T : TypeId → TI} {l : List Oper} {f : List Bool}
theorem Drw.steps2 {E E2 : Store → Prop} {ops : Array Oper} {K : List DV → Store → Prop} {n : Nat} {s : List DV} {σ : Store} (hn : n ≤ l.length) (h : Drw P E ops (l.take n) f s σ (fun s τ => Drw P E2 ops (l.drop n) (f.drop n) s τ K)) :
  ∃ (ss : Nat → List DV) (st : Nat → Store) (d : Nat → DV), ss 0 = s ∧ st 0 = σ ∧ K (ss l.length) (st l.length) ∧ (∀ i, i ≤ n → E (st i)) ∧ (∀ i, n ≤ i → i ≤ l.length → E2 (st i)) ∧
   ∀ i o, l[i]? = some o → StepAt P (if i < n then E else E2) ops f i o (ss i) (st i) (d i) (st (i + 1)) ∧ ss (i + 1) = putS (ss i) o.dst (d i) := by
 obtain ⟨s1, t1, d1, a1, a2, a3, a4, a5⟩ := h.steps
 obtain ⟨s2, t2, d2, b1, b2, b3, b4, b5⟩ := a3.steps
 have hl1 : (l.take n).length = n := by rw [List.length_take]; omega
 have hl2 : (l.drop n).length = l.length - n := List.length_drop
 rw [hl1] at a4 b1 b2
 rw [hl2] at b3 b4
 refine ⟨fun i => if i < n then s1 i else s2 (i - n), fun i => if i < n then t1 i else t2 (i - n), fun i => if i < n then d1 i else d2 (i - n), ?_, ?_, ?_, ?_, ?_, ?_⟩
 ·simp only
  split
  ·exact a1
  ·rename_i h0; have : n = 0 := by omega
   subst this; rw [b1]; exact a1
 ·simp only
  split
  ·exact a2
  ·rename_i h0; have : n = 0 := by omega
   subst this; rw [b2]; exact a2
 ·simp only
  rw [if_neg (by omega), if_neg (by omega)]; exact b3
 ·intro i hi
  simp only
  split
  ·exact a4 i hi
  ·have : i = n := by omega
   subst this; rw [Nat.sub_self, b2]; exact a4 i (Nat.le_refl _)
 ·intro i hi hi2
  simp only
  rw [if_neg (by omega)]; exact b4 _ (by omega)
 ·intro i o ho
  have hil := (List.getElem?_eq_some_iff.1 ho).1
  simp only
  by_cases hi : i < n
  ·have := a5 i o (by rw [List.getElem?_take_of_lt hi]; exact ho)
   rw [if_pos hi, if_pos hi, if_pos hi, if_pos hi]
   by_cases hi1 : i + 1 < n
   ·rw [if_pos hi1, if_pos hi1]; exact this
   ·have e : i + 1 = n := by omega
    rw [if_neg hi1, if_neg hi1, show i + 1 - n = 0 by omega, b1, b2, ← e]
    exact this
  ·have := b5 (i - n) o (by rw [List.getElem?_drop, show n + (i - n) = i by omega]; exact ho)
   rw [if_neg hi, if_neg hi, if_neg hi, if_neg hi, if_neg (show ¬ i + 1 < n by omega), if_neg (show ¬ i + 1 < n by omega), show i + 1 - n = i - n + 1 by omega]
   refine ⟨?_, this.2⟩
   have h := this.1
   unfold StepAt at h ⊢
   rw [show (f.drop n).getD (i - n) false = f.getD i false by rw [List.getD_eq_getElem?_getD, List.getElem?_drop, show n + (i - n) = i by omega, List.getD_eq_getElem?_getD]] at h
   exact h

theorem Drw.mono {E : Store → Prop} {ops : Array Oper} {K K' : List DV → Store → Prop} (hk : ∀ s τ, K s τ → K' s τ) : ∀ {l : List Oper} {f : List Bool} {s : List DV} {σ : Store}, Drw P E ops l f s σ K → Drw P E ops l f s σ K' := by
 intro l
 induction l with
 | nil => intro f s σ h; exact ⟨h.1, hk _ _ h.2⟩
 | cons o l ih =>
  intro f s σ h
  obtain ⟨hE, h⟩ := h
  refine ⟨hE, ?_⟩
  rcases h with ⟨h1, h2, h3⟩ | ⟨h1, h2, d, h3, h4⟩ | ⟨h1, h2, d, σ', h3, h4⟩
  ·exact .inl ⟨h1, h2, ih h3⟩
  ·exact .inr (.inl ⟨h1, h2, d, h3, ih h4⟩)
  ·exact .inr (.inr ⟨h1, h2, d, σ', h3, ih h4⟩)
theorem stAt_low {st : Nat → Store} {L : Nat → Bool} {n : Nat} : ∀ m, (∀ j, j < m → L j = true → f.getD j false = true → j < n) → ∃ k, k ≤ n ∧ k ≤ m ∧ stAt f st L m = st k
 | 0, _ => ⟨0, Nat.zero_le _, Nat.le_refl _, rfl⟩
 | m + 1, h => by
  simp only [stAt]
  split
  ·rename_i hh
   simp only [Bool.and_eq_true] at hh
   exact ⟨m + 1, h m (by omega) hh.1 hh.2, Nat.le_refl _, rfl⟩
  ·obtain ⟨k, h1, h2, h3⟩ := stAt_low (st := st) (L := L) (n := n) m (fun j hj => h j (by omega))
   exact ⟨k, h1, by omega, h3⟩
theorem stAt_high {st : Nat → Store} {L : Nat → Bool} {j : Nat} (hL : L j = true) (hf : f.getD j false = true) : ∀ m, j < m → ∃ k, j < k ∧ k ≤ m ∧ stAt f st L m = st k
 | 0, h => by omega
 | m + 1, h => by
  simp only [stAt]
  by_cases e : j = m
  ·subst e
   rw [hL, hf]
   exact ⟨j + 1, by omega, Nat.le_refl _, rfl⟩
  ·obtain ⟨k, h1, h2, h3⟩ := stAt_high (st := st) hL hf m (by omega)
   split
   ·exact ⟨m + 1, by omega, Nat.le_refl _, rfl⟩
   ·exact ⟨k, h1, by omega, h3⟩
def barr (l : List Oper) (n : Nat) : Bool :=
 let c := closB l
 (List.range l.length).all fun j => decide (j < n) || (List.range n).all fun i => (c.getD j 0).testBit i
theorem barr_spec {n : Nat} (h : barr l n = true) {i j : Nat} (hj : j < l.length) (hnj : n ≤ j) (hi : i < n) : i ∈ (closG l).getD j [] := by
 simp only [barr, List.all_eq_true, List.mem_range, Bool.or_eq_true, decide_eq_true_eq] at h
 rcases h j hj with h | h
 ·omega
 ·exact closB_spec l j i (h i hi)

theorem Ev_draw2 {id : Nat} {slots : List DV} {σ : Store} {Q : Exit → St → Prop} (hm : P.follows .mixedOrders = true) (f : List Bool) (E E2 : Store → Prop) (n : Nat) (hn : n ≤ l.length) (hf : fit l f = true) (hbar : barr l n = true)
  (h : Drw P E l.toArray (l.take n) f slots σ (fun s τ => Drw P E2 l.toArray (l.drop n) (f.drop n) s τ (fun s τ => Q .normal ⟨s, τ⟩))) : Ev P (.region id l.toArray true) ⟨slots, σ⟩ Q := by
 intro w0 G0 σ0 W0 G a w hx hr
 obtain ⟨ss, st, d, h0, hst0, hK, hE1, hE2, hS⟩ := Drw.steps2 hn h
 obtain ⟨hb, hcf⟩ := fit_spec hf
 have hss : ∀ i, i ≤ l.length → slAt l slots d (fun _ => true) i = ss i := slAt_all h0 (fun i o ho => (hS i o ho).2)
 have hstK : ∀ k, k < l.length → (wrs l f).getD k false = false → st (k + 1) = st k := by
  intro k hk hfk
  rw [wrs_get (List.getElem?_eq_getElem hk)] at hfk
  rcases (hS k _ (List.getElem?_eq_getElem hk)).1 with ⟨_, _, _, h⟩ | ⟨_, _, h, _⟩ | ⟨_, h, h2, _⟩
  ·exact h
  ·exact h
  ·rw [h] at hfk; exact h2 (by simpa using hfk)
 refine wp_region_any hm ?_
 simp only [List.size_toArray]
 let LL : Array Bool → Nat → Bool := fun A i => A.getD i false
 have done : ∀ (A : Array Bool) (G : Gh) (a : Act) (w : World), A.size = l.length → RelS w0 G ⟨slAt l slots d (LL A) l.length, stAt (wrs l f) st (LL A) l.length⟩ a w → Ext G0 σ0 W0 G (stAt (wrs l f) st (LL A) l.length) w →
   Region.ready .any l.toArray A = [] → Post w0 G0 σ0 W0 Q .normal a w := by
  intro A G a w hA hr hx hrn
  have hall := ready_nil hb hA hrn
  have e1 : slAt l slots d (LL A) l.length = ss l.length := by
   rw [← hss _ (Nat.le_refl _)]
   exact slAt_ext (fun j hj => hall j hj)
  have e2 : stAt (wrs l f) st (LL A) l.length = st l.length := by
   rw [stAt_lt (i := l.length) (n := l.length) (fun j hj _ _ => hj) hstK (fun j hj _ _ => hall j hj) _ (Nat.le_refl _), Nat.min_self]
  rw [e1, e2] at hr
  rw [e2] at hx
  exact ⟨_, G, hK, hr, hx⟩
 have main : ∀ (fuel : Nat) (A : Array Bool) (G : Gh) (a : Act) (w : World), A.size = l.length → A.toList.countP (fun b => !b) ≤ fuel →
   (∀ j y, l[j]? = some y → LL A j = true → ∀ i ∈ bound y, LL A i = true) →
   RelS w0 G ⟨slAt l slots d (LL A) l.length, stAt (wrs l f) st (LL A) l.length⟩ a w → Ext G0 σ0 W0 G (stAt (wrs l f) st (LL A) l.length) w →
   wpAny P .any l.toArray (Post w0 G0 σ0 W0 Q) fuel A a w := by
  intro fuel
  induction fuel with
  | zero =>
   intro A G a w hA hc hcl hr hx
   have hrn : Region.ready .any l.toArray A = [] := by
    refine List.eq_nil_iff_forall_not_mem.2 fun i hi => ?_
    obtain ⟨h1, h2, _⟩ := mem_ready.1 hi
    have h3 : A.toList.countP (fun b => !b) = 0 := by omega
    rw [List.countP_eq_zero] at h3
    have := h3 A[i] (by simp)
    rw [Array.getD_eq_getD_getElem?, Array.getElem?_eq_getElem (by omega)] at h2
    simp only [Option.getD_some] at h2
    rw [h2] at this
    simp at this
   exact ⟨hrn, done A G a w hA hr hx hrn⟩
  | succ fuel ih =>
   intro A G a w hA hc hcl hr hx
   refine ⟨done A G a w hA hr hx, fun i hi => ?_⟩
   obtain ⟨hin, hAi, o, ho, hdep⟩ := mem_ready.1 hi
   have hAg : A[i]'(by omega) = false := by
    rw [Array.getD_eq_getD_getElem?, Array.getElem?_eq_getElem (by omega)] at hAi
    simpa using hAi
   have hLi : LL A i = false := by
    show A.getD i false = false
    rw [Array.getD_eq_getD_getElem?, Array.getElem?_eq_getElem (by omega)]
    simpa using hAg
   have hpre : ∀ j x, l[j]? = some x → j < i → conflict l.toArray f j i x o = true → LL A j = true := fun j x hx hj hcf' =>
    clos_closed' hb o ho hcl hdep j (hcf j i x o hx ho hj hcf')
   have hpost : ∀ j y, l[j]? = some y → i < j → conflict l.toArray f i j o y = true → LL A j = false := fun j y hy hj hcf' => by
    cases hLj : LL A j with
    | false => rfl
    | true =>
     have := clos_closed hb hcl j (List.getElem?_eq_some_iff.1 hy).1 hLj i (hcf i j o y ho hy hj hcf')
     rw [hLi] at this; cases this
   have hag : agree (o.looksAt l.toArray) (ss i) (slAt l slots d (LL A) l.length) := by
    intro t ht
    have := slAt_agree (l := l) (s0 := slots) (d := d) (L := LL A) (i := i) (t := t) (fun j hj => by
     cases hy : l[j]? with
     | none => rw [hy] at hj; simp at hj
     | some y =>
      rw [hy] at hj
      simp only [Option.bind_some] at hj
      rcases Nat.lt_trichotomy j i with h | h | h
      ·exact ⟨fun _ => h, fun _ => hpre j y hy h (by simp [conflict, hj, ht])⟩
      ·subst h; exact ⟨fun h => absurd (hLi.symm.trans h) (by simp), fun h => by omega⟩
      ·exact ⟨fun h' => absurd ((hpost j y hy h (by simp [conflict, hj, ht])).symm.trans h') (by simp), fun h' => by omega⟩) l.length
    rw [this, show min i l.length = i by omega, hss i (by omega)]
   have hwd := wanted_looks (s' := slAt l slots d (LL A) l.length) hag
   obtain ⟨hstep, hput⟩ := hS i o ho
   have hpl : LL (A.setIfInBounds i true) = plus (LL A) i := by
    funext j
    show (A.setIfInBounds i true).getD j false = _
    rw [Array.getD_eq_getD_getElem?, Array.getElem?_setIfInBounds]
    by_cases e : i = j
    ·subst e; rw [if_pos rfl, if_pos (by omega)]; simp [plus]
    ·rw [if_neg e, ← Array.getD_eq_getD_getElem?]
     simp only [plus]
     rw [if_neg (Ne.symm e)]
   have hsl : slAt l slots d (plus (LL A) i) l.length = putS (slAt l slots d (LL A) l.length) o.dst (d i) := by
    have := slAt_plus (l := l) (s0 := slots) (d := d) (L := LL A) (i := i) hLi (fun j hj hLj t ht hjt => by
     rw [ho] at ht
     cases hy : l[j]? with
     | none => rw [hy] at hjt; simp at hjt
     | some y =>
      rw [hy] at hjt
      simp only [Option.bind_some] at ht hjt
      have := hpost j y hy hj (by simp [conflict, ht, hjt])
      rw [hLj] at this; cases this) l.length hin
    rw [this, ho]; rfl
   have next : ∀ (G' : Gh) (v' : Value) (w' : World) (σ' : Store), stAt (wrs l f) st (plus (LL A) i) l.length = σ' → a.defers = [] → RelL G' σ' w' (slAt l slots d (LL A) l.length) a.tmps.toList → RelV G' σ' w' (d i) v' → StoreRel w0 G' σ' w' →
     Ext G0 σ0 W0 G' σ' w' → wpAny P .any l.toArray (Post w0 G0 σ0 W0 Q) fuel (A.setIfInBounds i true) (a.put o.dst v') w' := by
    intro G' v' w' σ' hσ' hd hrl hv hS' hx'
    refine ih _ G' _ w' (by simpa using hA) ?_ ?_ ?_ ?_
    ·rw [Array.toList_setIfInBounds, List.countP_set (by simpa using (by omega : i < A.size))]
     have hp : 0 < A.toList.countP (fun b => !b) := List.countP_pos_iff.2 ⟨A[i], by simp, by rw [hAg]; rfl⟩
     have : A.toList[i]'(by simpa using (by omega : i < A.size)) = false := by simpa using hAg
     rw [this]
     simp only [Bool.not_false, if_true, Bool.not_true, Bool.false_eq_true, if_false]
     omega
    ·rw [hpl]
     intro j y hy hLj k hk
     simp only [plus] at hLj ⊢
     by_cases e : k = i
     ·rw [if_pos e]
     ·rw [if_neg e]
      by_cases e' : j = i
      ·subst e'
       rw [ho] at hy; injection hy with hy; subst hy
       exact hdep k hk
      ·rw [if_neg e'] at hLj
       exact hcl j y hy hLj k hk
    ·rw [hpl, hsl, hσ']
     refine ⟨by rw [put_defers]; exact hd, ?_, hS'⟩
     have := RelL_put hrl hv o.dst
     rw [putS_eq] at this
     exact this
    ·rw [hpl, hσ']; exact hx'
   unfold wpOp
   rw [show l.toArray[i]? = some o by simpa using ho]
   simp only
   rcases hstep with ⟨h1, h2, h3, h4⟩ | ⟨h1, h2, h3, h4⟩ | ⟨h1, h2, h3⟩
   ·rw [if_neg (by rw [wanted_rel hr.2.1 (hwd.trans h1)]; simp)]
    refine next G _ w _ ?_ hr.1 hr.2.1 (by rw [h3]; exact .tup [] [] rfl (fun i c v hc => by simp at hc)) hr.2.2 hx
    exact stAt_ext (fun j _ hfj => by simp only [plus]; rw [if_neg (by rintro rfl; rw [wrs_get ho, h2] at hfj; simp at hfj)])
   ·rw [if_pos (wanted_rel hr.2.1 (hwd.trans h1))]
    refine .inl ?_
    obtain ⟨k, hk, hkE, hst⟩ : ∃ k, k ≤ l.length ∧ (if i < n then E else E2) (st k) ∧ stAt (wrs l f) st (LL A) l.length = st k := by
     by_cases hin2 : i < n
     ·obtain ⟨k, hk1, hk2, hst⟩ := stAt_low (f := wrs l f) (st := st) (L := LL A) (n := n) l.length (fun j hj hLj _ => by
       rcases Nat.lt_or_ge j n with h | h
       ·exact h
       ·have := clos_closed hb hcl j hj hLj i (barr_spec hbar hj h hin2)
        rw [hLi] at this; cases this)
      exact ⟨k, hk2, by rw [if_pos hin2]; exact hE1 k hk1, hst⟩
     ·have hall : ∀ j, j < n → LL A j = true := fun j hj => clos_closed' hb o ho hcl hdep j (barr_spec hbar hin (by omega) hj)
      by_cases hex : ∃ j, j < l.length ∧ n ≤ j ∧ LL A j = true ∧ (wrs l f).getD j false = true
      ·obtain ⟨j, hj1, hj2, hj3, hj4⟩ := hex
       obtain ⟨k, hk1, hk2, hst⟩ := stAt_high (f := wrs l f) (st := st) (L := LL A) (j := j) hj3 hj4 l.length hj1
       exact ⟨k, hk2, by rw [if_neg hin2]; exact hE2 k (by omega) hk2, hst⟩
      ·refine ⟨n, hn, by rw [if_neg hin2]; exact hE2 n (Nat.le_refl _) hn, ?_⟩
       rw [stAt_lt (i := n) (n := l.length) (fun j hj hfj hLj => Classical.byContradiction fun hc => hex ⟨j, hj, by omega, hLj, hfj⟩) hstK (fun j hj hji hfj => hall j hji) _ (Nat.le_refl _), show min n l.length = n by omega]
    refine h4.2 _ hkE _ hag w0 G a w _ _ (by rw [← hst]; exact hr) ?_
    intro v G' w' hS' hE' hv
    refine next G' v w' _ ?_ hr.1 (by have := hr.2.1.ext (σ' := stAt (wrs l f) st (LL A) l.length) (by rw [hst]; simpa only [hst] using hE'); rw [hst] at this; exact this) hv hS' (hx.trans (by simpa only [hst] using hE'))
    rw [← hst]
    exact stAt_ext (fun j _ hfj => by simp only [plus]; rw [if_neg (by rintro rfl; rw [wrs_get ho, h2] at hfj; simp at hfj)])
   ·rw [if_pos (wanted_rel hr.2.1 (hwd.trans h1))]
    refine .inl ?_
    have eqi : stAt (wrs l f) st (LL A) l.length = st i := by
     rw [stAt_lt (i := i) (n := l.length) (fun j hj hfj hLj => ?_) hstK (fun j hj hji hfj => ?_) _ (Nat.le_refl _), show min i l.length = i by omega]
     ·rcases Nat.lt_trichotomy j i with h | h | h
      ·exact h
      ·subst h; rw [hLi] at hLj; cases hLj
      ·have hw := wrs_true (List.getElem?_eq_getElem hj) hfj
       have := hpost j _ (List.getElem?_eq_getElem hj) h (conflict_w h2 hw.1 (.inr hw.2))
       rw [hLj] at this; cases this
     ·have hw := wrs_true (List.getElem?_eq_getElem hj) hfj
      exact hpre j _ (List.getElem?_eq_getElem hj) hji (conflict_w hw.1 h2 (.inl hw.2))
    have eqi' : stAt (wrs l f) st (plus (LL A) i) l.length = st (i + 1) := by
     rw [stAt_lt (i := i + 1) (n := l.length) (fun j hj hfj hLj => ?_) hstK (fun j hj hji hfj => ?_) _ (Nat.le_refl _), show min (i + 1) l.length = i + 1 by omega]
     ·simp only [plus] at hLj
      by_cases e : j = i
      ·omega
      ·rw [if_neg e] at hLj
       rcases Nat.lt_trichotomy j i with h | h | h
       ·omega
       ·omega
       ·have hw := wrs_true (List.getElem?_eq_getElem hj) hfj
        have := hpost j _ (List.getElem?_eq_getElem hj) h (conflict_w h2 hw.1 (.inr hw.2))
        rw [hLj] at this; cases this
     ·simp only [plus]
      by_cases e : j = i
      ·rw [if_pos e]
      ·rw [if_neg e]
       have hw := wrs_true (List.getElem?_eq_getElem hj) hfj
       exact hpre j _ (List.getElem?_eq_getElem hj) (by omega) (conflict_w hw.1 h2 (.inl hw.2))
    rw [eqi] at hr hx
    refine h3.2 _ hag w0 G a w _ _ hr ?_
    rintro v r σ' G' w' ⟨rfl, rfl⟩ hS' hE' hd
    exact next G' v w' _ eqi' hr.1 (hr.2.1.ext hE') hd hS' (hx.trans hE')
 have hfalse : ∀ j, LL (Array.replicate l.length false) j = false := by
  intro j
  show (Array.replicate l.length false).getD j false = false
  rw [Array.getD_eq_getD_getElem?, Array.getElem?_replicate]
  split <;> rfl
 have e1 : slAt l slots d (LL (Array.replicate l.length false)) l.length = slots := by
  have : ∀ k, slAt l slots d (LL (Array.replicate l.length false)) k = slots := by
   intro k
   induction k with
   | zero => rfl
   | succ k ih => simp only [slAt]; rw [hfalse k]; exact ih
  exact this _
 have e2 : stAt (wrs l f) st (LL (Array.replicate l.length false)) l.length = σ := by
  have : ∀ k, stAt (wrs l f) st (LL (Array.replicate l.length false)) k = σ := by
   intro k
   induction k with
   | zero => exact hst0
   | succ k ih => simp only [stAt]; rw [hfalse k]; exact ih
  exact this _
 refine main l.length (Array.replicate l.length false) G a _ (by simp) ?_ ?_ ?_ ?_
 ·exact Nat.le_trans List.countP_le_length (by simp)
 ·intro j y _ h; rw [hfalse j] at h; cases h
 ·rw [e1, e2]
  exact ⟨hr.1, hr.2.1.ext (drew_ext _), drew_rel _ hr.2.2⟩
 ·rw [e2]; exact hx.trans (drew_ext _)
end
section
variable {P : Program} {T : TypeId → TI} {dsts : List (Option Tmp)} {l rest : List Oper} {f f' : List Bool} {s s' : List DV} {σ σ' : Store} {K : List DV → Store → Prop} {Q : Exit → St → Prop}
 {dst : Option Tmp} {op : Op} {ty : TypeId} {pos : String} {af : Array Edge} {g : Option (Nat × Bool)} {E : Store → Prop}
def EW1 (B : Option Box → List (Option Box)) : Store → Prop := fun τ => ∃ R M u, τ = ⟨R, B u, M⟩
theorem D_runLW1 (hT : TOK P T) {B : Option Box → List (Option Box)} {C : Prop} {acc : List DV} {n : Nat} {l1 l2 : List Oper} {f2 : List Bool} (k : DrD P (EW1 B) dsts l2 f2 s' σ K) (hc : C)
  (hn : leadQ l f = n := by simp only [List.drop_succ_cons, List.drop_zero, leadQ, leadG, sameG, stopOp, flagsOf, isWr, List.map_cons, List.map_nil, List.headD_cons, List.tail_cons, List.contains_cons, List.contains_nil, Nat.reduceBEq, beq_self_eq_true, Bool.true_beq, Bool.false_beq, Bool.not_true, Bool.not_false, Bool.and_true, Bool.true_and, Bool.and_false, Bool.false_and, Bool.or_false, Bool.false_or, Bool.or_true, Bool.true_or, Bool.and_self, if_true, if_false, Bool.false_eq_true, Nat.zero_add, Nat.reduceAdd]; exact rfl) (h1 : l.take n = l1 := by simp only [List.take_succ_cons, List.take_zero]; exact rfl) (h2 : l.drop n = l2 := by simp only [List.drop_succ_cons, List.drop_zero]; exact rfl) (hl : Nat.ble n l.length = true := by rfl) (h3 : f.drop n = f2 := by rfl)
  (h : ∀ R u M, runQ T dsts ⟨R, B u, M⟩ l1 f s True [] = (C, acc, s', [], f') := by intro R u M; simp (maxSteps := 1000000) (disch := omega) only [go_sem]; with_reducible exact rfl)
  (hp : l2.length < l.length := by decide) (hE : EW1 B σ := by exact ⟨_, _, _, rfl⟩) : DrD P (EW1 B) dsts l f s σ K := by
 refine DrD_runN hT hE n (acc := acc) (f' := f') h1 h2 (Nat.le_of_ble_eq_true hl) h3 (fun τ hτ => ⟨C, ?_, hc⟩) k
 obtain ⟨R, M, u, rfl⟩ := hτ
 exact h R u M
theorem D_two {id : Nat} (f : List Bool) (n : Nat) (B : Option Box → List (Option Box)) (hm : P.follows .mixedOrders = true) {l1 l2 : List Oper} {f2 : List Bool}
  (h : DrD P (EW1 B) dsts l1 f s σ (fun s τ => DrD P EA dsts l2 f2 s τ (fun s τ => Q .normal ⟨s, τ⟩)))
  (h1 : l.take n = l1 := by simp only [List.take_succ_cons, List.take_zero]; exact rfl) (h2 : l.drop n = l2 := by simp only [List.drop_succ_cons, List.drop_zero]; exact rfl) (h3 : f.drop n = f2 := by rfl)
  (hd : l.map (·.dst) = dsts := by simp only [List.map_cons, List.map_nil]; exact rfl) (hf : fit l f = true := by decide +kernel) (hb : barr l n = true := by decide +kernel) (hn : Nat.ble n l.length = true := by rfl) : Ev P (.region id l.toArray true) ⟨s, σ⟩ Q := by
 subst h1 h2 h3
 have ho : l.toArray.toList.map (·.dst) = dsts := by simpa using hd
 refine Ev_draw2 hm f (EW1 B) EA n (Nat.le_of_ble_eq_true hn) hf hb ?_
 exact Drw.mono (fun s τ hk => hk _ ho) (h _ ho)
theorem D_conP {c : Call} {fu : FuncId} {args args' : List DV} {b : Nat} {ty' : TypeId} {cs cs' : List DV} {C : Prop} {d : DV} {rs : List Row} {bs : List Box} {ms : List (List (DV × DV))}
  [hfu : FnC P fu] [hi : ConP P fu args' ty' cs C d cs' rs bs ms] (k : DrD P E dsts l f.tail s' σ' K) (hc : C)
  (h : calleeD P s c = some (fu, .ptr b 0 :: args) := by simp (disch := omega) only [go_sem]; with_reducible exact rfl)
  (hB : σ.boxes[b]? = some (some ⟨ty', cs⟩) := by first | assumption | ((try simp only [app_get, app_get0, List.getElem?_cons_succ, List.getElem?_cons_zero]) <;> exact rfl))
  (hle : weakL args = args' := by simp only [weakL, List.map_cons, List.map_nil, weakD_slt, weakD_sl, weakD_int, weakD_bool, weakD_str, weakD_agg, weakD_row, weakD_ptr, weakD_cp, weakD_rp, weakD_nilp, weakD_fn, weakD_mp, weakD_it, weakD_cm, weakD_undef]; exact rfl)
  (hs : putS s dst (d.ren (σ.rows.length + ·) (σ.boxes.length + ·) (σ.maps.length + ·)) = s' := by simp only [go_sem, DV.ren, rens, Nat.add_zero]; exact rfl)
  (hσ : (⟨σ.rows, σ.boxes.set b (some ⟨ty', cs'⟩), σ.maps⟩ : Store).plus rs bs ms = σ' := by simp only [Store.plus, app_set, app_set0, List.set_cons_succ, List.set_cons_zero, List.map_cons, List.map_nil, List.append_nil, List.append_assoc, List.cons_append, List.nil_append]; exact rfl)
  (hon : onD dsts s g = some true := by simp only [go_sem] <;> fail) (hf : f.headD false = true := by rfl) (hE : E σ := by first | exact ⟨_, _, _, rfl⟩ | exact ⟨rfl, rfl⟩ | exact trivial | exact rfl | exact EP_app _ _ _ | exact EP_self _ | exact EP_one _ _) : DrD P E dsts (⟨dst, .call c, ty, pos, af, g⟩ :: l) f s σ K := by
 subst hσ
 intro ops ho
 refine ⟨hE, .inr (.inr ⟨onD_wanted ho hon, hf, _, _, ?_, by rw [putS_eq, hs]; exact k ops ho⟩)⟩
 refine ⟨(fun h => by cases h), ?_⟩
 intro s1 hag
 exact Does.act (s := ⟨s1, σ⟩) rfl (by rw [calleeD_congr (agree_ops hag)]; exact h) (.cons (Le.refl _) (hle ▸ LeL_weak args)) (hi.ok hc σ b hB) hfu.at_
theorem D_turn {E2 : Store → Prop} {l2 : List Oper} {f2 : List Bool} {K : List DV → Store → Prop} (h : DrD P E2 dsts l2 f2 s σ K) (hE : E σ := by first | exact ⟨_, _, _, rfl⟩ | exact trivial) : DrD P E dsts [] f s σ (fun s τ => DrD P E2 dsts l2 f2 s τ K) := DrD_nil hE h
end
end Go.Val
end
