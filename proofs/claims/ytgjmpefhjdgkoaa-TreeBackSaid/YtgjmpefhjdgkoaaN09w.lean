/- Chapter 09: what is built is a tree; its pairs are those it was built of (plain law). -/
import Derived.Test.YtgjmpefhjdgkoaaN09v
import Derived.Test.YtgjmpefhjdgkoaaN09t
namespace Go.Val.Ytgjmpefhjdgkoaa
open Go Go.Val Go.Proofs Go.Proofs.Ytgjmpefhjdgkoaa
set_option maxRecDepth 100000
set_option linter.unusedSimpArgs false
set_option linter.unusedVariables false
theorem take_pcl (P : List PairB) (n : Nat) : (List.range n).flatMap (fun i => pcl P i) = P.take (5 * n) := by
 induction n with
 | zero => simp
 | succ n ih =>
  rw [List.range_succ, List.flatMap_append, ih, Nat.mul_succ, List.take_add]
  simp [pcl]
theorem pairsOf_bst (P : List PairB) : ∀ r, pairsOf (bst P r).1 = P
 | 0 => by
  have h : pairsOf (bst P 0).1 = (List.range (nL P.length)).flatMap (fun i => pcl P i) := by
   simp [pairsOf, bst, leaves, List.flatMap_map]
  rw [h, take_pcl, List.take_of_length_le]
  unfold nL; omega
 | r + 1 => by
  have h : pairsOf (nodesG (bst P r).2 (pcM (bst P r).2.length 8)) = [] := by
   simp [pairsOf, nodesG]
  have h2 := pairsOf_bst P r
  unfold pairsOf at *
  rw [bst, List.flatMap_append, h, List.append_nil, h2]
theorem mayD_leaf {P : List PairB} (hm : mayT P = true) (g : Nat) : mayD (pcl P g, [], []) = true := by
 have hl := pcl_len P g
 have hok : allN (pcl P g).length (okP (pcl P g)) = true := by
  rw [allN_iff]
  intro i hi
  have hi5 : i < 5 ∧ 5 * g + i < P.length := by
   simp only [pcl, List.length_take, List.length_drop] at hi; omega
  have e := (pcl_at P hi5.1 hi5.2).2
  have h1 := (allN_iff.1 hm) (5 * g + i) hi5.2
  simp only [okP, e, Bool.and_eq_true, Bool.or_eq_true] at h1 ⊢
  refine ⟨h1.1, ?_⟩
  rcases Nat.eq_zero_or_pos i with rfl | h0
  ·left; rfl
  ·right
   have e2 := (pcl_at P (g := g) (i := i - 1) (by omega) (by omega)).2
   have := h1.2.resolve_left (by simp; omega)
   rw [e2, show 5 * g + (i - 1) = 5 * g + i - 1 by omega]
   exact this
 simp only [mayD, mayN, hok, Bool.true_and]
 simp only [shapeN, List.length_nil, if_true, allN, List.range_zero, List.all_nil, Bool.true_and]
 simp; omega
theorem keyP_at {P : List PairB} (hm : mayT P = true) {i : Nat} (h : i < P.length) : keyP (keyAt P i) := by
 have h1 := (allN_iff.1 hm) i h
 simp only [okP, Bool.and_eq_true, decide_eq_true_eq] at h1
 exact h1.1.1
theorem stG_two {c i : Nat} (h1 : 1 < c) (h : i < pcM c 8) : stG c i + 2 ≤ stG c (i + 1) := by
 unfold pcM at h
 have h8 : 8 * i < c := by omega
 by_cases a : 8 * i + 1 = c ∧ 0 < i
 ·rw [stG_cut a.1 a.2, stG_end (by omega)]; omega
 ·rw [stG_mul a (by omega)]
  by_cases b : 8 * (i + 1) + 1 = c
  ·rw [stG_cut b (by omega)]; omega
  ·by_cases e : c ≤ 8 * (i + 1)
   ·rw [stG_end e]; omega
   ·rw [stG_mul (by omega) (by omega)]; omega
theorem mayD_inner {P : List PairB} (hn : P.length ≤ 3000) (hm : mayT P = true) (hp : pagesT P.length ≤ 200) {r g : Nat} (hr : r + 1 ≤ rdC (nL P.length)) (hg : g < lvN (nL P.length) (r + 1)) :
  mayD ([], keysG (grp (bst P r).2 g), kidsG (grp (bst P r).2 g)) = true := by
 obtain ⟨q1, q2, q3, q4, q5⟩ := grpN_eq P r g hr hg
 have hlv : 1 < lvN (nL P.length) r := rdC_lt (by omega)
 have q6 : 2 ≤ grpN P r g := by
  have := stG_two hlv (show g < pcM (lvN (nL P.length) r) 8 from hg)
  unfold grpN; omega
 have hkey := fun i => key_at P r g i hr hg
 have hkid := fun i => kid_at P r g i hr hg
 have hK : (keysG (grp (bst P r).2 g)).length = grpN P r g - 1 := by rw [keysG_len, q1]
 have hC2 : (kidsG (grp (bst P r).2 g)).length = grpN P r g := by rw [kidsG_len, q1]
 generalize keysG (grp (bst P r).2 g) = K at *
 generalize kidsG (grp (bst P r).2 g) = C at *
 have hlo : ∀ i, i + 1 < grpN P r g → 5 * loL (nL P.length) r (stG (lvN (nL P.length) r) g + i + 1) < P.length := by
  intro i hi
  have h6 := loL_lt (nL P.length) r (by omega) 0 (stG (lvN (nL P.length) r) g + i + 1) (by omega) (by omega)
  have h7 := loL_lt (nL P.length) r (by omega) (stG (lvN (nL P.length) r) g + i + 1) (lvN (nL P.length) r) (by omega) (Nat.le_refl _)
  rw [loL_end] at h7
  rw [loL_zero] at h6
  exact nL_in h7 (by omega)
 have aK : allN K.length (okK K) = true := by
  rw [allN_iff]
  intro i hi
  simp only [okK, Bool.and_eq_true, Bool.or_eq_true, decide_eq_true_eq]
  rw [hkey i (by omega)]
  refine ⟨keyP_at hm (hlo i (by omega)), ?_⟩
  rcases Nat.eq_zero_or_pos i with rfl | h0
  ·left; rfl
  ·right
   rw [hkey (i - 1) (by omega)]
   refine mayT_lt' hm ?_ (hlo i (by omega))
   have := loL_lt (nL P.length) r (by omega) (stG (lvN (nL P.length) r) g + (i - 1) + 1) (stG (lvN (nL P.length) r) g + i + 1) (by omega) (by omega)
   omega
 have aC : allN C.length (okC C) = true := by
  rw [allN_iff]
  intro i hi
  simp only [okC, Bool.and_eq_true, decide_eq_true_eq, allN_iff, Bool.not_eq_true', decide_eq_false_iff_not]
  rw [hkid i (by omega)]
  have hin := in_level (nL P.length) r (stG (lvN (nL P.length) r) g + i) (rdC (nL P.length)) (by omega) (by omega)
  have : sumL (nL P.length) (rdC (nL P.length)) ≤ 200 := hp
  refine ⟨⟨by omega, by omega⟩, fun k hk => ?_⟩
  rw [hkid k (by omega)]
  omega
 have z : allN (List.length ([] : List PairB)) (okP []) = true := rfl
 simp only [mayD, mayN, aK, aC, z, Bool.true_and]
 rw [shapeN, if_neg (by omega), hK, hC2]
 simp; omega
theorem mayD_bld {P : List PairB} (hn : P.length ≤ 3000) (hm : mayT P = true) (hp : pagesT P.length ≤ 200) {q : Nat} (hq : q < (bldT P).length) : mayD ((bldT P).getD q ([], [], [])) = true := by
 have hl : (bldT P).length = sumL (nL P.length) (rdC (nL P.length)) := bst_all P _
 obtain ⟨r, g, hr, hg, rfl⟩ := level_of _ _ _ (hl ▸ hq)
 rw [List.getD_eq_getElem?_getD, bldT, bst_at P _ r g hr hg]
 rcases r with _ | r
 ·exact mayD_leaf hm g
 ·exact mayD_inner hn hm hp hr hg
theorem bld_right {P : List PairB} (hn : P.length ≤ 3000) (h : (bldR P).2 = 0) : mayT P = true ∧ pagesT P.length ≤ 200 ∧ (bldR P).1 = bldT P ∧ pairsOf (bldT P) = P ∧ rightT (bldT P) = true ∧ (bldT P).length = pagesT P.length := by
 have hR : bldR P = (bldT P, 0) := by
  unfold bldR at h ⊢
  by_cases a : mayT P = false
  ·rw [if_pos a] at h; cases h
  ·rw [if_neg a] at h ⊢
   by_cases b : 200 < pagesT P.length
   ·rw [if_pos b] at h; cases h
   ·rw [if_neg b]
 have hm : mayT P = true := by
  by_cases a : mayT P = false
  ·unfold bldR at h; rw [if_pos a] at h; cases h
  ·simpa using a
 have hp : pagesT P.length ≤ 200 := by
  rcases Nat.lt_or_ge 200 (pagesT P.length) with b | b
  ·unfold bldR at h; rw [if_neg (by rw [hm]; simp), if_pos b] at h; cases h
  ·exact b
 have hpo : pairsOf (bldT P) = P := pairsOf_bst P _
 refine ⟨hm, hp, by rw [hR], hpo, ?_, bst_all P _⟩
 rw [rightT, hpo, hR]
 simp only [decide_true, Bool.and_true]
 rw [allN_iff]
 exact fun i hi => mayD_bld hn hm hp hi
theorem bld_none {P : List PairB} (h : ¬ (bldR P).2 = 0) : (bldR P).1 = [] := by
 unfold bldR at h ⊢
 split
 ·rfl
 ·split
  ·rfl
  ·rename_i a b
   rw [if_neg a, if_neg b] at h
   exact absurd rfl h
theorem sizeT_bld {P : List PairB} (hn : P.length ≤ 3000) (h : (bldR P).2 = 0) : sizeT (bldT P) := by
 obtain ⟨hm, hp, e, hpo, _, hl⟩ := bld_right hn h
 refine ⟨by omega, fun x hx => okS_size (okS_bld P x (e ▸ hx)), by rw [hpo]; exact hn⟩
theorem fstK_at {P : List PairB} (hm : mayT P = true) {i : Nat} (h : i < P.length) : fstK P (keyAt P i) = i := by
 have h1 : fstK P (keyAt P i) ≤ i := by
  rcases Nat.lt_or_ge i (fstK P (keyAt P i)) with hl | hl
  ·have := firstN_lt (p := fun j => decide (keyAt P j = keyAt P i)) hl
   simp at this
  ·exact hl
 have h2 : fstK P (keyAt P i) < P.length := by omega
 have h3 := firstN_eq (p := fun j => decide (keyAt P j = keyAt P i)) (n := P.length) h2
 exact mayT_inj hm h2 h (by simpa [fstK] using h3)
theorem fndP_at {P : List PairB} (hm : mayT P = true) {i : Nat} (h : i < P.length) : fndP P (keyAt P i) = ((P.getD i ([], [])).2, 0) := by
 unfold fndP; rw [fstK_at hm h, if_pos h]
theorem fndP_in (P : List PairB) (k : List UInt8) : (fndP P k).2 = if allN P.length (fun i => !decide (keyAt P i = k)) = true then 7 else 0 := by
 unfold fndP
 by_cases h : fstK P k < P.length
 ·rw [if_pos h, if_neg]
  rw [allN_iff]
  intro ha
  have h3 := firstN_eq (p := fun j => decide (keyAt P j = k)) (n := P.length) h
  have := ha _ h
  rw [show fstK P k = firstN P.length (fun j => decide (keyAt P j = k)) from rfl] at this
  rw [h3] at this; cases this
 ·rw [if_neg h, if_pos]
  rw [allN_iff]
  intro i hi
  have := firstN_lt (p := fun j => decide (keyAt P j = k)) (n := P.length) (i := i) (by
   show i < fstK P k
   have : fstK P k ≤ P.length := firstN_le _ _
   omega)
  rw [this]; rfl
theorem rngP_all (P : List PairB) : rngP P [] [] = P := by
 unfold rngP
 rw [List.filter_eq_self]
 intro p _
 simp [inR, ltB_nil]
end Go.Val.Ytgjmpefhjdgkoaa
