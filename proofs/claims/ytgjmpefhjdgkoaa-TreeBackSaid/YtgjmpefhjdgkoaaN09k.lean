/- Chapter 09: the shape of a tree that is built: each page's kids, and its depth. -/
import Derived.Test.YtgjmpefhjdgkoaaN09j
namespace Go.Val.Ytgjmpefhjdgkoaa
open Go Go.Val Go.Proofs Go.Proofs.Ytgjmpefhjdgkoaa
set_option maxRecDepth 100000
set_option linter.unusedSimpArgs false
set_option linter.unusedVariables false
def thF (c : Nat) : Nat → Nat → Nat
 | 0, _ => 0
 | r + 1, g => sumP c r + stG (lvN c r) g
def thL (c : Nat) : Nat → List Nat
 | 0 => (List.range c).map fun g => thF c 0 g
 | r + 1 => thL c r ++ (List.range (lvN c (r + 1))).map fun g => thF c (r + 1) g
def dpL (c R : Nat) : Nat → List Nat
 | 0 => List.replicate c (R + 1)
 | r + 1 => dpL c R r ++ List.replicate (lvN c (r + 1)) (R - (r + 1) + 1)
theorem thL_len (c : Nat) : ∀ r, (thL c r).length = sumL c r
 | 0 => by simp [thL, sumL]
 | r + 1 => by simp [thL, sumL, thL_len c r]
theorem dpL_len (c R : Nat) : ∀ r, (dpL c R r).length = sumL c r
 | 0 => by simp [dpL, sumL]
 | r + 1 => by simp [dpL, sumL, dpL_len c R r]
theorem sumP_mono (c : Nat) {r s : Nat} (h : r ≤ s) : sumP c r ≤ sumP c s := by
 induction s with
 | zero =>
  have : r = 0 := by omega
  subst this; exact Nat.le_refl _
 | succ s ih =>
  rcases Nat.lt_or_ge s r with hlt | hge
  ·have : r = s + 1 := by omega
   subst this; exact Nat.le_refl _
  ·have := ih hge
   simp only [sumP]; omega
theorem in_level (c r g s : Nat) (hr : r ≤ s) (hg : g < lvN c r) : sumP c r + g < sumL c s := by
 have h1 : sumP c (r + 1) ≤ sumP c (s + 1) := sumP_mono c (by omega)
 rw [sumP_sumL, sumP_sumL, sumP_L] at h1
 omega
theorem level_of (c : Nat) : ∀ s q, q < sumL c s → ∃ r g, r ≤ s ∧ g < lvN c r ∧ q = sumP c r + g
 | 0, q, h => ⟨0, q, Nat.le_refl _, h, by simp [sumP]⟩
 | s + 1, q, h => by
  by_cases hq : q < sumL c s
  ·obtain ⟨r, g, a, b, d⟩ := level_of c s q hq
   exact ⟨r, g, by omega, b, d⟩
  ·have h' : q < sumL c s + lvN c (s + 1) := h
   exact ⟨s + 1, q - sumL c s, Nat.le_refl _, by omega, by rw [sumP_sumL]; omega⟩
theorem thL_get (c : Nat) : ∀ s r g, r ≤ s → g < lvN c r → (thL c s)[sumP c r + g]? = some (thF c r g)
 | 0, r, g, hr, hg => by
  obtain rfl : r = 0 := by omega
  have hg' : g < c := hg
  simp [thL, sumP, List.getElem?_map, List.getElem?_range hg']
 | s + 1, r, g, hr, hg => by
  by_cases h : r ≤ s
  ·rw [thL, List.getElem?_append_left (by rw [thL_len]; exact in_level c r g s h hg)]
   exact thL_get c s r g h hg
  ·obtain rfl : r = s + 1 := by omega
   rw [thL, sumP_sumL, ← thL_len, List.getElem?_append_right (by omega), Nat.add_sub_cancel_left, List.getElem?_map, List.getElem?_range hg]
   rfl
theorem dpL_get (c R : Nat) : ∀ s r g, r ≤ s → s ≤ R → g < lvN c r → (dpL c R s)[sumP c r + g]? = some (R - r + 1)
 | 0, r, g, hr, _, hg => by
  obtain rfl : r = 0 := by omega
  have hg' : g < c := hg
  simp [dpL, sumP, List.getElem?_replicate, hg']
 | s + 1, r, g, hr, hs, hg => by
  by_cases h : r ≤ s
  ·rw [dpL, List.getElem?_append_left (by rw [dpL_len]; exact in_level c r g s h hg)]
   exact dpL_get c R s r g h (by omega) hg
  ·obtain rfl : r = s + 1 := by omega
   rw [dpL, sumP_sumL, ← dpL_len c R s, List.getElem?_append_right (by omega), Nat.add_sub_cancel_left, List.getElem?_replicate, if_pos hg]
theorem bst_node (P : List PairB) : ∀ s r g, r ≤ s → g < lvN (nL P.length) r → ∃ A B, (bst P s).1[sumP (nL P.length) r + g]? = some (A, B, match r with | 0 => [] | r + 1 => kidsG (grp (bst P r).2 g))
 | 0, r, g, hr, hg => by
  obtain rfl : r = 0 := by omega
  have hg' : g < nL P.length := hg
  exact ⟨pcl P g, [], by simp [bst, leaves, sumP, List.getElem?_map, List.getElem?_range hg']⟩
 | s + 1, r, g, hr, hg => by
  by_cases h : r ≤ s
  ·obtain ⟨A, B, e⟩ := bst_node P s r g h hg
   refine ⟨A, B, ?_⟩
   rw [bst, List.getElem?_append_left (by rw [bst_all]; exact in_level _ r g s h hg)]
   exact e
  ·obtain rfl : r = s + 1 := by omega
   have hg' : g < pcM (bst P s).2.length 8 := by rw [bst_len]; exact hg
   refine ⟨[], keysG (grp (bst P s).2 g), ?_⟩
   rw [bst, sumP_sumL, ← bst_all, List.getElem?_append_right (by omega), Nat.add_sub_cancel_left, nodesG, List.getElem?_map, List.getElem?_range hg']
   rfl
def th (c q : Nat) : Nat := (thL c (rdC c) ++ [sumP c (rdC c)]).getD q 0
def dep (c q : Nat) : Nat := (dpL c (rdC c) (rdC c)).getD q 0
theorem thF_end (c r : Nat) : thF c r (lvN c r) = sumP c r := by
 rcases r with _ | r
 ·rfl
 ·have : stG (lvN c r) (lvN c (r + 1)) = lvN c r := stG_end (by simp only [lvN]; omega)
  simp only [thF, this, sumP]
theorem thF_zero (c r : Nat) : thF c (r + 1) 0 = sumP c r := by
 have : stG (lvN c r) 0 = 0 := by unfold stG; simp
 simp only [thF, this, Nat.add_zero]
theorem th_at {c r g : Nat} (hr : r ≤ rdC c) (hg : g < lvN c r) : th c (sumP c r + g) = thF c r g := by
 unfold th
 rw [List.getD_eq_getElem?_getD, List.getElem?_append_left (by rw [thL_len]; exact in_level c r g _ hr hg), thL_get c _ r g hr hg]
 rfl
theorem th_top (c : Nat) : th c (sumL c (rdC c)) = sumP c (rdC c) := by
 unfold th
 rw [List.getD_eq_getElem?_getD, ← thL_len, List.getElem?_append_right (by omega), Nat.sub_self]
 rfl
theorem dep_at {c r g : Nat} (hr : r ≤ rdC c) (hg : g < lvN c r) : dep c (sumP c r + g) = rdC c - r + 1 := by
 unfold dep
 rw [List.getD_eq_getElem?_getD, dpL_get c _ _ r g hr (Nat.le_refl _) hg]
 rfl
theorem th_next {c r g : Nat} (h1 : 1 ≤ c) (hr : r ≤ rdC c) (hg : g < lvN c r) : th c (sumP c r + g + 1) = thF c r (g + 1) := by
 by_cases h : g + 1 < lvN c r
 ·exact th_at hr h
 ·have e : g + 1 = lvN c r := by omega
  rw [Nat.add_assoc, e, thF_end]
  have e2 : sumP c r + lvN c r = sumP c (r + 1) := rfl
  by_cases hR : r = rdC c
  ·rw [e2, sumP_sumL, hR, th_top]
  ·rw [e2]
   have := th_at (c := c) (r := r + 1) (g := 0) (by omega) (lvN_pos h1 _)
   rw [Nat.add_zero] at this
   rw [this, thF_zero]
theorem thF_le (c r g : Nat) (hg : g < lvN c r) : thF c r (g + 1) ≤ sumP c r + g ∧ thF c r g ≤ thF c r (g + 1) := by
 rcases r with _ | r
 ·simp [thF]
 ·by_cases h1 : 1 < lvN c r
  ·have hg' : g < pcM (lvN c r) 8 := hg
   obtain ⟨a, b, d⟩ := stG_step h1 hg'
   simp only [thF, sumP]; omega
  ·have : lvN c r ≤ 1 := by omega
   have hg0 : g < (lvN c r + 7) / 8 := hg
   have hc : lvN c r = 1 := by omega
   have hg1 : g = 0 := by omega
   subst hg1
   have e0 : stG (lvN c r) 0 = 0 := by unfold stG; simp
   have e1 : stG (lvN c r) (0 + 1) = lvN c r := stG_end (by omega)
   simp only [thF, sumP, e0, e1]; omega
structure PageQ (c q : Nat) (C : List Int) : Prop where
 le : th c q ≤ th c (q + 1)
 lt : th c (q + 1) ≤ q
 len : C.length = th c (q + 1) - th c q
 kid : ∀ j, j < C.length → C.getD j 0 = ((th c q + j : Nat) : Int) ∧ dep c (th c q + j) = dep c q + 1
 pos : 1 ≤ dep c q ∧ dep c q ≤ rdC c + 1
 leaf : C.length = 0 → dep c q = rdC c + 1
theorem page_of (P : List PairB) (q : Nat) (hq : q < sumL (nL P.length) (rdC (nL P.length))) : ∃ A B C, (bldT P)[q]? = some (A, B, C) ∧ PageQ (nL P.length) q C := by
 have h1 := nL_pos P.length
 obtain ⟨r, g, hr, hg, rfl⟩ := level_of _ _ _ hq
 obtain ⟨A, B, e⟩ := bst_node P (rdC (nL P.length)) r g hr hg
 refine ⟨A, B, _, e, ?_⟩
 have t0 := th_at hr hg
 have t1 := th_next h1 hr hg
 have d0 := dep_at hr hg
 obtain ⟨l1, l2⟩ := thF_le _ r g hg
 rcases r with _ | r
 ·refine ⟨by omega, by omega, by rw [t0, t1]; rfl, fun j hj => by simp at hj, by omega, fun _ => by omega⟩
 ·have hl : (bst P r).2.length = lvN (nL P.length) r := bst_len P r
  have h2 : 1 < lvN (nL P.length) r := rdC_lt (by omega)
  have hg' : g < pcM (lvN (nL P.length) r) 8 := hg
  obtain ⟨s1, s2, s3⟩ := stG_step h2 hg'
  have hlen : (grp (bst P r).2 g).length = stG (lvN (nL P.length) r) (g + 1) - stG (lvN (nL P.length) r) g := by
   simp only [grp, List.length_take, List.length_drop, hl]; omega
  have hkl : (kidsG (grp (bst P r).2 g)).length = thF (nL P.length) (r + 1) (g + 1) - thF (nL P.length) (r + 1) g := by
   rw [kidsG_len, hlen]; simp only [thF]; omega
  refine ⟨by omega, by omega, by rw [t0, t1]; exact hkl, fun j hj => ?_, by omega, fun hz => ?_⟩
  ·have hj' : j < (grp (bst P r).2 g).length := by rw [kidsG_len] at hj; exact hj
   have hgg := grp_get (bst P r).2 g j hj'
   rw [hl] at hgg
   have hb := bst_fst P r (stG (lvN (nL P.length) r) g + j) (by omega)
   have hlt : stG (lvN (nL P.length) r) g + j < (bst P r).2.length := by omega
   rw [List.getElem?_eq_getElem hlt] at hb
   simp only [Option.map_some, Option.some.injEq] at hb
   rw [t0]
   have e2 : thF (nL P.length) (r + 1) g + j = sumP (nL P.length) r + (stG (lvN (nL P.length) r) g + j) := by simp only [thF]; omega
   refine ⟨?_, ?_⟩
   ·rw [e2, ← hb]
    have : ((grp (bst P r).2 g).getD j (0, [])).1 = ((bst P r).2[stG (lvN (nL P.length) r) g + j]).1 := by
     rw [hgg, List.getD_eq_getElem?_getD, List.getElem?_eq_getElem hlt]; rfl
    rw [← this]
    simp [kidsG, List.getD_eq_getElem?_getD, List.getElem?_map, List.getElem?_eq_getElem hj']
   ·rw [e2, dep_at (by omega) (by omega), d0]; omega
  ·rw [hkl] at hz
   simp only [thF] at hz; omega
theorem dep_root {c : Nat} (h1 : 1 ≤ c) (h6 : c ≤ 600) : dep c (sumL c (rdC c) - 1) = 1 ∧ th c (sumL c (rdC c)) = sumL c (rdC c) - 1 ∧ 1 ≤ sumL c (rdC c) := by
 have h2 := rdC_end h6
 have h3 := lvN_pos h1 (rdC c)
 have h4 := sumP_L c (rdC c)
 have h5 := dep_at (c := c) (r := rdC c) (g := 0) (Nat.le_refl _) (by omega)
 rw [Nat.add_zero] at h5
 refine ⟨?_, ?_, by omega⟩
 ·rw [show sumL c (rdC c) - 1 = sumP c (rdC c) by omega, h5]; omega
 ·rw [th_top]; omega
end Go.Val.Ytgjmpefhjdgkoaa
