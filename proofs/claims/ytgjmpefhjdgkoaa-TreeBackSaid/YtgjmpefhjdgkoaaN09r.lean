/- Chapter 09: the way from a tree's root to the leaf that may have a key (plain law). -/
import Derived.Test.YtgjmpefhjdgkoaaN09k
import Derived.Test.YtgjmpefhjdgkoaaN09q
namespace Go.Val.Ytgjmpefhjdgkoaa
open Go Go.Val Go.Proofs Go.Proofs.Ytgjmpefhjdgkoaa
set_option maxRecDepth 100000
set_option linter.unusedSimpArgs false
set_option linter.unusedVariables false
theorem ltB_nil (x : List UInt8) : Op.bytesLess x [] = false := by cases x <;> rfl
theorem ltB_cons (a b : UInt8) (x y : List UInt8) : Op.bytesLess (a :: x) (b :: y) = (decide (a < b) || (a == b && Op.bytesLess x y)) := rfl
theorem ltB_iff (a b : UInt8) (x y : List UInt8) : Op.bytesLess (a :: x) (b :: y) = true ↔ a.toNat < b.toNat ∨ (a = b ∧ Op.bytesLess x y = true) := by
 rw [ltB_cons]; simp [UInt8.lt_iff_toNat_lt]
theorem ltB_irr : ∀ x : List UInt8, Op.bytesLess x x = false
 | [] => rfl
 | a :: x => by
  rw [Bool.eq_false_iff, Ne, ltB_iff]
  rintro (h | ⟨_, h⟩)
  ·omega
  ·rw [ltB_irr x] at h; cases h
theorem ltB_trans : ∀ {x y z : List UInt8}, Op.bytesLess x y = true → Op.bytesLess y z = true → Op.bytesLess x z = true
 | x, y, [], _, h => by rw [ltB_nil] at h; cases h
 | x, [], z :: zs, h, _ => by rw [ltB_nil] at h; cases h
 | [], _ :: _, _ :: _, _, _ => rfl
 | a :: x, b :: y, c :: z, h1, h2 => by
  rw [ltB_iff] at h1 h2 ⊢
  rcases h1 with h1 | ⟨rfl, h1⟩ <;> rcases h2 with h2 | ⟨rfl, h2⟩
  ·exact .inl (by omega)
  ·exact .inl h1
  ·exact .inl h2
  ·exact .inr ⟨rfl, ltB_trans h1 h2⟩
theorem ltB_tri : ∀ {x y : List UInt8}, Op.bytesLess x y = false → Op.bytesLess y x = false → x = y
 | [], [], _, _ => rfl
 | [], _ :: _, h, _ => by cases h
 | _ :: _, [], _, h => by cases h
 | a :: x, b :: y, h1, h2 => by
  rw [Bool.eq_false_iff, Ne, ltB_iff] at h1 h2
  have e : a.toNat = b.toNat := by
   rcases Nat.lt_trichotomy a.toNat b.toNat with h | h | h
   ·exact absurd (.inl h) h1
   ·exact h
   ·exact absurd (.inl h) h2
  have e2 : a = b := UInt8.toNat_inj.1 e
  subst e2
  rw [ltB_tri (x := x) (y := y) (by rw [Bool.eq_false_iff]; exact fun h => h1 (.inr ⟨rfl, h⟩)) (by rw [Bool.eq_false_iff]; exact fun h => h2 (.inr ⟨rfl, h⟩))]
theorem ltB_asym {x y : List UInt8} (h : Op.bytesLess x y = true) : Op.bytesLess y x = false := by
 rw [Bool.eq_false_iff]
 intro h2
 have := ltB_trans h h2
 rw [ltB_irr] at this; cases this
theorem mayT_lt {P : List PairB} (h : mayT P = true) : ∀ (d i : Nat), i + d + 1 < P.length → Op.bytesLess (keyAt P i) (keyAt P (i + d + 1)) = true
 | 0, i, hl => by
  have := (allN_iff.1 h) (i + 1) hl
  simp only [okP, Bool.and_eq_true, Bool.or_eq_true, decide_eq_true_eq] at this
  have := this.2.resolve_left (by omega)
  rwa [show i + 1 - 1 = i by omega] at this
 | d + 1, i, hl => by
  have h1 := mayT_lt h d i (by omega)
  have := (allN_iff.1 h) (i + (d + 1) + 1) hl
  simp only [okP, Bool.and_eq_true, Bool.or_eq_true, decide_eq_true_eq] at this
  have h2 := this.2.resolve_left (by omega)
  rw [show i + (d + 1) + 1 - 1 = i + d + 1 by omega] at h2
  exact ltB_trans h1 h2
theorem mayT_lt' {P : List PairB} (h : mayT P = true) {i j : Nat} (hij : i < j) (hj : j < P.length) : Op.bytesLess (keyAt P i) (keyAt P j) = true := by
 have := mayT_lt h (j - i - 1) i (by omega)
 rwa [show i + (j - i - 1) + 1 = j by omega] at this
theorem mayT_inj {P : List PairB} (h : mayT P = true) {i j : Nat} (hi : i < P.length) (hj : j < P.length) (e : keyAt P i = keyAt P j) : i = j := by
 rcases Nat.lt_trichotomy i j with hl | hl | hl
 ·have := mayT_lt' h hl hj
  rw [e, ltB_irr] at this; cases this
 ·exact hl
 ·have := mayT_lt' h hl hi
  rw [e, ltB_irr] at this; cases this
def gtB (a b : List UInt8) : Bool := !(Op.bytesLess a b || decide (a = b))
theorem gtB_iff {a b : List UInt8} : gtB a b = Op.bytesLess b a := by
 unfold gtB
 by_cases h : a = b
 ·subst h; simp [ltB_irr]
 ·rw [decide_eq_false h, Bool.or_false]
  cases h1 : Op.bytesLess a b
  ·cases h2 : Op.bytesLess b a
   ·exact absurd (ltB_tri h1 h2) h
   ·rfl
  ·rw [ltB_asym h1]; rfl
theorem keyAt_gt {P : List PairB} (h : mayT P = true) {i j : Nat} (hi : i < P.length) (hj : j < P.length) : gtB (keyAt P i) (keyAt P j) = decide (j < i) := by
 rw [gtB_iff]
 by_cases hl : j < i
 ·rw [mayT_lt' h hl hi, decide_eq_true hl]
 ·rw [decide_eq_false hl]
  rcases Nat.lt_or_ge i j with h2 | h2
  ·exact ltB_asym (mayT_lt' h h2 hj)
  ·rw [show i = j by omega, ltB_irr]
theorem firstN_congr {n : Nat} {p q : Nat → Bool} (h : ∀ i, i < n → p i = q i) : firstN n p = firstN n q := by
 have h1 := firstN_le n p
 have h2 := firstN_le n q
 rcases Nat.lt_trichotomy (firstN n p) (firstN n q) with hl | hl | hl
 ·have a := firstN_eq (n := n) (p := p) (by omega)
  have b := firstN_lt hl
  rw [h _ (by omega), b] at a; cases a
 ·exact hl
 ·have a := firstN_eq (n := n) (p := q) (by omega)
  have b := firstN_lt hl
  rw [← h _ (by omega), b] at a; cases a
def loL (c : Nat) : Nat → Nat → Nat
 | 0, g => g
 | r + 1, g => loL c r (stG (lvN c r) g)
theorem stG_zero (c : Nat) : stG c 0 = 0 := by unfold stG; simp
theorem loL_zero (c : Nat) : ∀ r, loL c r 0 = 0
 | 0 => rfl
 | r + 1 => by rw [loL, stG_zero, loL_zero c r]
theorem loL_end (c : Nat) : ∀ r, loL c r (lvN c r) = c
 | 0 => rfl
 | r + 1 => by
  rw [loL, stG_end (by simp only [lvN]; omega), loL_end c r]
theorem stG_lt {c : Nat} (h1 : 1 < c) : ∀ (d a : Nat), a + d + 1 ≤ pcM c 8 → stG c a < stG c (a + d + 1) ∧ stG c (a + d + 1) ≤ c
 | 0, a, h => by have := stG_step h1 (show a < pcM c 8 by omega); rw [Nat.add_zero]; omega
 | d + 1, a, h => by
  have h2 := stG_lt h1 d a (by omega)
  have h3 := stG_step h1 (show a + d + 1 < pcM c 8 by omega)
  rw [show a + (d + 1) + 1 = a + d + 1 + 1 by omega]; omega
theorem loL_lt (c : Nat) : ∀ r, r ≤ rdC c → ∀ a b, a < b → b ≤ lvN c r → loL c r a < loL c r b
 | 0, _, a, b, h, _ => h
 | r + 1, hr, a, b, h, hb => by
  have h1 : 1 < lvN c r := rdC_lt (by omega)
  have h2 := stG_lt h1 (b - a - 1) a (by
   have : lvN c (r + 1) = pcM (lvN c r) 8 := by simp only [lvN, pcM]; omega
   omega)
  rw [show a + (b - a - 1) + 1 = b by omega] at h2
  exact loL_lt c r (by omega) _ _ h2.1 h2.2
theorem bst_snd (P : List PairB) : ∀ r g, g < lvN (nL P.length) r → r ≤ rdC (nL P.length) → ((bst P r).2[g]?).map (·.2) = some (keyAt P (5 * loL (nL P.length) r g))
 | 0, g, h, _ => by
  have h' : g < nL P.length := h
  simp [bst, level0, List.getElem?_map, List.getElem?_range h', loL]
 | r + 1, g, h, hr => by
  have h1 : 1 < lvN (nL P.length) r := rdC_lt (by omega)
  have h' : g < pcM (bst P r).2.length 8 := by rw [bst_len]; exact h
  have h2 := stG_step (by rw [bst_len]; exact h1) h'
  have hgl := grp_len (by rw [bst_len]; exact h1) h'
  have hg := grp_get (bst P r).2 g 0 (by omega)
  rw [Nat.add_zero] at hg
  have hs := bst_snd P r (stG (lvN (nL P.length) r) g) (by rw [bst_len] at h2; omega) (by omega)
  have hlt : stG (lvN (nL P.length) r) g < (bst P r).2.length := by rw [bst_len] at h2 ⊢; omega
  rw [List.getElem?_eq_getElem hlt] at hs
  simp only [Option.map_some, Option.some.injEq] at hs
  rw [loL, ← hs]
  simp only [bst, partsG, List.getElem?_map, List.getElem?_range h', Option.map_some, Option.some.injEq]
  rw [hg, bst_len, List.getD_eq_getElem?_getD, List.getElem?_eq_getElem hlt]; rfl
def nodeAt (P : List PairB) : Nat → Nat → NodeB
 | 0, g => (pcl P g, [], [])
 | r + 1, g => ([], keysG (grp (bst P r).2 g), kidsG (grp (bst P r).2 g))
theorem bst_at (P : List PairB) : ∀ s r g, r ≤ s → g < lvN (nL P.length) r → (bst P s).1[sumP (nL P.length) r + g]? = some (nodeAt P r g)
 | 0, r, g, hr, hg => by
  obtain rfl : r = 0 := by omega
  have hg' : g < nL P.length := hg
  simp [bst, leaves, sumP, List.getElem?_map, List.getElem?_range hg', nodeAt]
 | s + 1, r, g, hr, hg => by
  by_cases h : r ≤ s
  ·rw [bst, List.getElem?_append_left (by rw [bst_all]; exact in_level _ r g s h hg)]
   exact bst_at P s r g h hg
  ·obtain rfl : r = s + 1 := by omega
   have hg' : g < pcM (bst P s).2.length 8 := by rw [bst_len]; exact hg
   rw [bst, sumP_sumL, ← bst_all, List.getElem?_append_right (by omega), Nat.add_sub_cancel_left, nodesG, List.getElem?_map, List.getElem?_range hg']
   rfl
def grpN (P : List PairB) (r g : Nat) : Nat := stG (lvN (nL P.length) r) (g + 1) - stG (lvN (nL P.length) r) g
theorem grpN_eq (P : List PairB) (r g : Nat) (hr : r + 1 ≤ rdC (nL P.length)) (hg : g < lvN (nL P.length) (r + 1)) : (grp (bst P r).2 g).length = grpN P r g ∧ 1 ≤ grpN P r g ∧ grpN P r g ≤ 8 ∧ stG (lvN (nL P.length) r) g + grpN P r g = stG (lvN (nL P.length) r) (g + 1) ∧ stG (lvN (nL P.length) r) (g + 1) ≤ lvN (nL P.length) r := by
 have h1 : 1 < lvN (nL P.length) r := rdC_lt (by omega)
 have h' : g < pcM (lvN (nL P.length) r) 8 := hg
 have h2 := stG_step h1 h'
 have hl := bst_len P r
 refine ⟨?_, ?_, ?_, ?_, h2.2.1⟩
 ·simp only [grp, List.length_take, List.length_drop, hl, grpN]; omega
 all_goals (unfold grpN; omega)
theorem key_at (P : List PairB) (r g i : Nat) (hr : r + 1 ≤ rdC (nL P.length)) (hg : g < lvN (nL P.length) (r + 1)) (hi : i + 1 < grpN P r g) : (keysG (grp (bst P r).2 g)).getD i [] = keyAt P (5 * loL (nL P.length) r (stG (lvN (nL P.length) r) g + i + 1)) := by
 obtain ⟨h1, h2, h3, h4, h5⟩ := grpN_eq P r g hr hg
 have hl := bst_len P r
 have hgg := grp_get (bst P r).2 g (i + 1) (by omega)
 rw [hl] at hgg
 have hs := bst_snd P r (stG (lvN (nL P.length) r) g + (i + 1)) (by omega) (by omega)
 have hlt : stG (lvN (nL P.length) r) g + (i + 1) < (bst P r).2.length := by omega
 rw [List.getElem?_eq_getElem hlt] at hs
 simp only [Option.map_some, Option.some.injEq] at hs
 rw [List.getD_eq_getElem?_getD, List.getD_eq_getElem?_getD, List.getElem?_eq_getElem hlt] at hgg
 have hq : (grp (bst P r).2 g)[i + 1]? = some ((grp (bst P r).2 g).getD (i + 1) (0, [])) := by
  rw [List.getD_eq_getElem?_getD, List.getElem?_eq_getElem (by omega)]; rfl
 rw [Nat.add_assoc, ← hs, keysG, List.getD_eq_getElem?_getD, List.getElem?_map, List.getElem?_drop, Nat.add_comm 1 i, hq, List.getD_eq_getElem?_getD, hgg]
 rfl
theorem kid_at (P : List PairB) (r g i : Nat) (hr : r + 1 ≤ rdC (nL P.length)) (hg : g < lvN (nL P.length) (r + 1)) (hi : i < grpN P r g) : (kidsG (grp (bst P r).2 g)).getD i 0 = ((sumP (nL P.length) r + (stG (lvN (nL P.length) r) g + i) : Nat) : Int) := by
 obtain ⟨h1, h2, h3, h4, h5⟩ := grpN_eq P r g hr hg
 have hl := bst_len P r
 have hgg := grp_get (bst P r).2 g i (by omega)
 rw [hl] at hgg
 have hs := bst_fst P r (stG (lvN (nL P.length) r) g + i) (by omega)
 have hlt : stG (lvN (nL P.length) r) g + i < (bst P r).2.length := by omega
 rw [List.getElem?_eq_getElem hlt] at hs
 simp only [Option.map_some, Option.some.injEq] at hs
 rw [List.getD_eq_getElem?_getD, List.getD_eq_getElem?_getD, List.getElem?_eq_getElem hlt] at hgg
 have hq : (grp (bst P r).2 g)[i]? = some ((grp (bst P r).2 g).getD i (0, [])) := by
  rw [List.getD_eq_getElem?_getD, List.getElem?_eq_getElem (by omega)]; rfl
 rw [← hs, kidsG, List.getD_eq_getElem?_getD, List.getElem?_map, hq, List.getD_eq_getElem?_getD, hgg]
 rfl
def kidI (P : List PairB) (k : List UInt8) (r g : Nat) : Nat := firstN (grpN P r g - 1) (fun i => gtB (keyAt P (5 * loL (nL P.length) r (stG (lvN (nL P.length) r) g + i + 1))) k)
def pth (P : List PairB) (k : List UInt8) (R : Nat) : Nat → Nat
 | 0 => 0
 | t + 1 => stG (lvN (nL P.length) (R - (t + 1))) (pth P k R t) + kidI P k (R - (t + 1)) (pth P k R t)
theorem pth_lt (P : List PairB) (k : List UInt8) : ∀ t, t ≤ rdC (nL P.length) → pth P k (rdC (nL P.length)) t < lvN (nL P.length) (rdC (nL P.length) - t)
 | 0, _ => lvN_pos (nL_pos _) _
 | t + 1, h => by
  have ih := pth_lt P k t (by omega)
  have e : rdC (nL P.length) - t = (rdC (nL P.length) - (t + 1)) + 1 := by omega
  rw [e] at ih
  obtain ⟨h1, h2, h3, h4, h5⟩ := grpN_eq P _ _ (by omega) ih
  have h6 := firstN_le (grpN P (rdC (nL P.length) - (t + 1)) (pth P k (rdC (nL P.length)) t) - 1) (fun i => gtB (keyAt P (5 * loL (nL P.length) (rdC (nL P.length) - (t + 1)) (stG (lvN (nL P.length) (rdC (nL P.length) - (t + 1))) (pth P k (rdC (nL P.length)) t) + i + 1))) k)
  simp only [pth, kidI]; omega
theorem nL_in {n q : Nat} (h : q < nL n) (h0 : 0 < q) : 5 * q < n := by unfold nL at h; omega
theorem pth_ok {P : List PairB} (hn : P.length ≤ 3000) (hm : mayT P = true) {j : Nat} (hj : j < P.length) : ∀ t, t ≤ rdC (nL P.length) →
  loL (nL P.length) (rdC (nL P.length) - t) (pth P (keyAt P j) (rdC (nL P.length)) t) ≤ j / 5 ∧ j / 5 < loL (nL P.length) (rdC (nL P.length) - t) (pth P (keyAt P j) (rdC (nL P.length)) t + 1)
 | 0, _ => by
  have h1 : lvN (nL P.length) (rdC (nL P.length)) = 0 + 1 := by
   have a := lvN_pos (nL_pos P.length) (rdC (nL P.length))
   have b := rdC_end (nL_le hn)
   omega
  rw [pth, Nat.sub_zero, loL_zero, ← h1, loL_end]
  refine ⟨Nat.zero_le _, ?_⟩
  unfold nL; omega
 | t + 1, h => by
  obtain ⟨a, b⟩ := pth_ok hn hm hj t (by omega)
  have hg := pth_lt P (keyAt P j) t (by omega)
  have hg2 := pth_lt P (keyAt P j) (t + 1) h
  have e : rdC (nL P.length) - t = (rdC (nL P.length) - (t + 1)) + 1 := by omega
  rw [e] at hg a b
  obtain ⟨h1, h2, h3, h4, h5⟩ := grpN_eq P _ _ (by omega) hg
  rw [loL] at a b
  rw [pth, kidI]
  have hrR : rdC (nL P.length) - (t + 1) ≤ rdC (nL P.length) := by omega
  generalize pth P (keyAt P j) (rdC (nL P.length)) t = g at *
  generalize rdC (nL P.length) - (t + 1) = r at *
  have hlo : ∀ i, i + 1 < grpN P r g → 5 * loL (nL P.length) r (stG (lvN (nL P.length) r) g + i + 1) < P.length := by
   intro i hi
   have h6 := loL_lt (nL P.length) r hrR 0 (stG (lvN (nL P.length) r) g + i + 1) (by omega) (by omega)
   have h7 := loL_lt (nL P.length) r hrR (stG (lvN (nL P.length) r) g + i + 1) (lvN (nL P.length) r) (by omega) (Nat.le_refl _)
   rw [loL_end] at h7
   rw [loL_zero] at h6
   exact nL_in h7 (by omega)
  obtain ⟨f, hf⟩ : ∃ f, f = firstN (grpN P r g - 1) (fun i => gtB (keyAt P (5 * loL (nL P.length) r (stG (lvN (nL P.length) r) g + i + 1))) (keyAt P j)) := ⟨_, rfl⟩
  have hfl : f ≤ grpN P r g - 1 := hf ▸ firstN_le _ _
  rw [← hf]
  refine ⟨?_, ?_⟩
  ·rcases Nat.eq_zero_or_pos f with h0 | h0
   ·rw [h0, Nat.add_zero]; exact a
   ·have := firstN_lt (n := grpN P r g - 1) (p := fun i => gtB (keyAt P (5 * loL (nL P.length) r (stG (lvN (nL P.length) r) g + i + 1))) (keyAt P j)) (i := f - 1) (by rw [← hf]; omega)
    rw [keyAt_gt hm (hlo _ (by omega)) hj, decide_eq_false_iff_not, show stG (lvN (nL P.length) r) g + (f - 1) + 1 = stG (lvN (nL P.length) r) g + f by omega] at this
    omega
  ·rcases Nat.lt_or_ge f (grpN P r g - 1) with hl | hl
   ·have := firstN_eq (n := grpN P r g - 1) (p := fun i => gtB (keyAt P (5 * loL (nL P.length) r (stG (lvN (nL P.length) r) g + i + 1))) (keyAt P j)) (by rw [← hf]; exact hl)
    rw [← hf] at this
    rw [keyAt_gt hm (hlo _ (by omega)) hj, decide_eq_true_eq] at this
    omega
   ·rw [show stG (lvN (nL P.length) r) g + f + 1 = stG (lvN (nL P.length) r) (g + 1) by omega]
    exact b
end Go.Val.Ytgjmpefhjdgkoaa
