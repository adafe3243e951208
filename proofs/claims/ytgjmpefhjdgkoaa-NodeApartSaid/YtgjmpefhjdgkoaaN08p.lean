/- Chapter 08: what is laid down is read again, both ways; what is read by one is read by the other. -/
import Derived.Test.YtgjmpefhjdgkoaaN08o
namespace Go.Val.Ytgjmpefhjdgkoaa
open Go Go.Val Go.Proofs Go.Proofs.Ytgjmpefhjdgkoaa
set_option maxRecDepth 100000
set_option maxHeartbeats 1000000
set_option linter.unusedSimpArgs false
set_option linter.unusedVariables false
theorem ofNat_lt {n : Nat} (h : n < 256) : (UInt8.ofNat n).toNat = n := by simp; omega
theorem takeB_app (k z : List UInt8) : takeB (k ++ z) k.length = k := by
 unfold takeB
 rw [List.length_append, Nat.min_eq_right (by omega), List.take_left, Nat.sub_self]
 simp
theorem rdB_layT {k z : List UInt8} (h : k.length < 256) : rdB (layT k ++ z) = k.length := by simp [rdB, layT]; omega
theorem rdT_layT {k z : List UInt8} (h : k.length < 256) : rdT (layT k ++ z) = k := by
 unfold rdT; rw [rdB_layT h]; exact takeB_app k z
theorem rdR_layT {k z : List UInt8} (h : k.length < 256) : rdR (layT k ++ z) = z := by
 unfold rdR; rw [rdB_layT h]; show (k ++ z).drop k.length = z; simp
theorem layPs_cons (k v : List UInt8) (P : List PairB) : layPs ((k, v) :: P) = layT k ++ (layT v ++ layPs P) := by simp [layPs]
theorem layKs_cons (k : List UInt8) (P : List (List UInt8)) : layKs (k :: P) = layT k ++ layKs P := by simp [layKs]
theorem layCs_cons (c : Int) (P : List Int) : layCs (c :: P) = beN 2 c.toNat ++ layCs P := by simp [layCs]
theorem layCs_app (A B : List Int) : layCs (A ++ B) = layCs A ++ layCs B := by simp [layCs]
theorem prP_lay {P : List PairB} (z : List UInt8) (h : ∀ i, i < P.length → keyP (P.getD i ([], [])).1 ∧ valP (P.getD i ([], [])).2) : ∀ i, i ≤ P.length → prP i (layPs P ++ z) = (P.take i, layPs (P.drop i) ++ z)
 | 0, _ => by simp [prP]
 | i + 1, hi => by
  have hil : i < P.length := by omega
  have ih := prP_lay z h i (by omega)
  have hq := h i hil
  rw [List.getD_eq_getElem?_getD, List.getElem?_eq_getElem hil, Option.getD_some] at hq
  simp only [prP, ih]
  rw [List.drop_eq_getElem_cons hil]
  obtain ⟨⟨k, v⟩, hkv⟩ : ∃ p, p = P[i] := ⟨_, rfl⟩
  rw [← hkv] at hq ⊢
  have h1 : k.length < 256 := by simp only [keyP] at hq; omega
  have h2 : v.length < 256 := by simp only [valP] at hq; omega
  rw [layPs_cons, List.append_assoc, rdT_layT h1, rdR_layT h1, List.append_assoc, rdT_layT h2, rdR_layT h2, List.take_add_one, List.getElem?_eq_getElem hil, ← hkv]
  rfl
theorem be2_kid {c : Int} {z : List UInt8} (h : 0 ≤ c ∧ c ≤ 199) : kidAt (beN 2 c.toNat ++ z) = c ∧ ((beN 2 c.toNat ++ z).drop 1).drop 1 = z := by
 rw [be2 c h]
 have h1 : c.toNat / 256 = 0 := by omega
 rw [h1]
 refine ⟨?_, rfl⟩
 have h2 := ofNat_lt (n := c.toNat) (by omega)
 simp [kidAt, rdB]
 simp at h2
 omega
theorem prC_lay {C : List Int} (z : List UInt8) (h : ∀ i, i < C.length → 0 ≤ C.getD i 0 ∧ C.getD i 0 ≤ 199) : ∀ i, i ≤ C.length → prC i (layCs C ++ z) = (C.take i, layCs (C.drop i) ++ z)
 | 0, _ => by simp [prC]
 | i + 1, hi => by
  have hil : i < C.length := by omega
  have ih := prC_lay z h i (by omega)
  have hq := h i hil
  rw [List.getD_eq_getElem?_getD, List.getElem?_eq_getElem hil, Option.getD_some] at hq
  simp only [prC, ih]
  rw [List.drop_eq_getElem_cons hil, layCs_cons, List.append_assoc, (be2_kid hq).1, (be2_kid hq).2, List.take_add_one, List.getElem?_eq_getElem hil]
  rfl
theorem prK_lay {K : List (List UInt8)} (z : List UInt8) (h : ∀ i, i < K.length → keyP (K.getD i [])) : ∀ i, i ≤ K.length → prK i (layKs K ++ z) = (K.take i, layKs (K.drop i) ++ z)
 | 0, _ => by simp [prK]
 | i + 1, hi => by
  have hil : i < K.length := by omega
  have ih := prK_lay z h i (by omega)
  have hq := h i hil
  rw [List.getD_eq_getElem?_getD, List.getElem?_eq_getElem hil, Option.getD_some] at hq
  have h1 : (K[i]).length < 256 := by simp only [keyP] at hq; omega
  simp only [prK, ih]
  rw [List.drop_eq_getElem_cons hil, layKs_cons, List.append_assoc, rdT_layT h1, rdR_layT h1, List.take_add_one, List.getElem?_eq_getElem hil]
  rfl
theorem padN_leaf {P : List PairB} : padN P [] [] = 0 :: UInt8.ofNat P.length :: (layPs P ++ List.replicate (508 - (rawN P [] []).length) 0) := by
 simp [padN, rawN, headN]
theorem padN_kids {K : List (List UInt8)} {C : List Int} (h : C.length ≠ 0) : padN [] K C = UInt8.ofNat C.length :: (layCs C ++ (layKs K ++ List.replicate (508 - (rawN [] K C).length) 0)) := by
 simp [padN, rawN, headN, h]
theorem ok_split {P : List PairB} {K : List (List UInt8)} {C : List Int} (h : OkN P K C) : (C = [] ∧ K = [] ∧ P.length ≤ 5) ∨ (P = [] ∧ 2 ≤ C.length ∧ C.length ≤ 8 ∧ K.length = C.length - 1) := by
 rcases h.s with ⟨a, b, c⟩ | ⟨a, b, c, d⟩
 ·exact .inl ⟨List.length_eq_zero_iff.1 a, List.length_eq_zero_iff.1 b, c⟩
 ·exact .inr ⟨List.length_eq_zero_iff.1 a, b, c, d⟩
theorem rdB_cons (x : UInt8) (l : List UInt8) : rdB (x :: l) = x.toNat := rfl
theorem pars_pad {P : List PairB} {K : List (List UInt8)} {C : List Int} (h : OkN P K C) : parsN (padN P K C) = (P, K, C) := by
 rcases ok_split h with ⟨rfl, rfl, h5⟩ | ⟨rfl, h2, h8, hk⟩
 ·rw [padN_leaf]
  have h1 : rdB (0 :: UInt8.ofNat P.length :: (layPs P ++ List.replicate (508 - (rawN P [] []).length) 0)) = 0 := rfl
  rw [parsN, if_pos h1]
  simp only [List.drop_succ_cons, List.drop_zero]
  rw [rdB_cons, ofNat_lt (by omega), prP_lay _ h.p _ (Nat.le_refl _), List.take_length]
 ·rw [padN_kids (by omega)]
  have h1 : rdB (UInt8.ofNat C.length :: (layCs C ++ (layKs K ++ List.replicate (508 - (rawN [] K C).length) 0))) = C.length := by rw [rdB_cons, ofNat_lt (by omega)]
  rw [parsN, if_neg (by rw [h1]; omega), h1]
  simp only [List.drop_succ_cons, List.drop_zero]
  rw [prC_lay _ h.c _ (Nat.le_refl _), List.take_length, List.drop_length]
  simp only [layCs_nil, List.nil_append]
  rw [← hk, prK_lay _ h.k _ (Nat.le_refl _), List.take_length]
theorem octN_at (p : List UInt8) (x : UInt8) (z : List UInt8) : octN (p ++ x :: z) p.length = x.toNat := by simp [octN, List.getD_eq_getElem?_getD]
theorem getN_at {p k z : List UInt8} (h : k.length < 256) : getN (p ++ (layT k ++ z)) p.length = (k, p.length + 1 + k.length) := by
 have ho : octN (p ++ (layT k ++ z)) p.length = k.length := by
  show octN (p ++ UInt8.ofNat k.length :: (k ++ z)) p.length = _
  rw [octN_at, ofNat_lt h]
 unfold getN
 rw [ho, if_neg (by simp [layT]; omega)]
 have e : (p ++ (layT k ++ z)).drop (p.length + 1) = k ++ z := by
  rw [← List.drop_drop, List.drop_left]; rfl
 rw [e, List.take_left]
theorem gtP_lay {P : List PairB} (p z : List UInt8) (hp : p.length = 2) (h : ∀ i, i < P.length → keyP (P.getD i ([], [])).1 ∧ valP (P.getD i ([], [])).2) : ∀ i, i ≤ P.length → gtP (p ++ (layPs P ++ z)) i = (P.take i, 2 + (layPs (P.take i)).length)
 | 0, _ => by simp [gtP]
 | i + 1, hi => by
  have hil : i < P.length := by omega
  have ih := gtP_lay p z hp h i (by omega)
  have hq := h i hil
  rw [List.getD_eq_getElem?_getD, List.getElem?_eq_getElem hil, Option.getD_some] at hq
  simp only [gtP, ih]
  obtain ⟨⟨k, v⟩, hkv⟩ : ∃ p, p = P[i] := ⟨_, rfl⟩
  rw [← hkv] at hq
  have h1 : k.length < 256 := by simp only [keyP] at hq; omega
  have h2 : v.length < 256 := by simp only [valP] at hq; omega
  have ht : P.take (i + 1) = P.take i ++ [(k, v)] := by rw [List.take_add_one, List.getElem?_eq_getElem hil, ← hkv]; rfl
  have hs : layPs P = layPs (P.take i) ++ (layT k ++ (layT v ++ layPs (P.drop (i + 1)))) := by
   have : P = P.take i ++ (k, v) :: P.drop (i + 1) := by rw [hkv, ← List.drop_eq_getElem_cons hil, List.take_append_drop]
   rw [show layPs P = layPs (P.take i ++ (k, v) :: P.drop (i + 1)) by rw [← this]]
   simp [layPs]
  have hl : 2 + (layPs (P.take i)).length = (p ++ layPs (P.take i)).length := by rw [List.length_append, hp]
  have e1 : p ++ (layPs P ++ z) = (p ++ layPs (P.take i)) ++ (layT k ++ (layT v ++ (layPs (P.drop (i + 1)) ++ z))) := by rw [hs]; simp
  have e2 : p ++ (layPs P ++ z) = (p ++ layPs (P.take i) ++ layT k) ++ (layT v ++ (layPs (P.drop (i + 1)) ++ z)) := by rw [hs]; simp
  have g1 : getN (p ++ (layPs P ++ z)) (2 + (layPs (P.take i)).length) = (k, (p ++ layPs (P.take i)).length + 1 + k.length) := by rw [hl, e1, getN_at h1]
  have hl2 : (p ++ layPs (P.take i)).length + 1 + k.length = (p ++ layPs (P.take i) ++ layT k).length := by simp only [List.length_append, layT_len]; omega
  have g2 : getN (p ++ (layPs P ++ z)) ((p ++ layPs (P.take i)).length + 1 + k.length) = (v, (p ++ layPs (P.take i) ++ layT k).length + 1 + v.length) := by
   rw [hl2, e2, getN_at h2]
  rw [g1]
  simp only
  rw [g2, ht]
  refine Prod.ext rfl ?_
  simp only
  simp only [List.length_append, layT_len, hp]
  rw [show layPs (P.take i ++ [(k, v)]) = layPs (P.take i) ++ (layT k ++ layT v) by simp [layPs]]
  simp only [List.length_append, layT_len]
  omega
theorem gtC_lay {C : List Int} (x : UInt8) (z : List UInt8) (h : ∀ i, i < C.length → 0 ≤ C.getD i 0 ∧ C.getD i 0 ≤ 199) : ∀ i, i ≤ C.length → gtC (x :: (layCs C ++ z)) i = C.take i
 | 0, _ => by simp [gtC]
 | i + 1, hi => by
  have hil : i < C.length := by omega
  have ih := gtC_lay x z h i (by omega)
  have hq := h i hil
  rw [List.getD_eq_getElem?_getD, List.getElem?_eq_getElem hil, Option.getD_some] at hq
  simp only [gtC, ih]
  have hs : layCs C = layCs (C.take i) ++ (beN 2 (C[i]).toNat ++ layCs (C.drop (i + 1))) := by
   have : C = C.take i ++ C[i] :: C.drop (i + 1) := by rw [← List.drop_eq_getElem_cons hil, List.take_append_drop]
   exact (congrArg layCs this).trans (by rw [layCs_app, layCs_cons])
  have hl := layCs_len (C := C) i (by omega)
  rw [List.take_add_one, List.getElem?_eq_getElem hil]
  generalize C[i] = c at hq hs ⊢
  rw [be2 c hq] at hs
  have e1 : x :: (layCs C ++ z) = (x :: layCs (C.take i)) ++ UInt8.ofNat (c.toNat / 256) :: (UInt8.ofNat c.toNat :: (layCs (C.drop (i + 1)) ++ z)) := by rw [hs]; simp
  have e2 : x :: (layCs C ++ z) = (x :: (layCs (C.take i) ++ [UInt8.ofNat (c.toNat / 256)])) ++ UInt8.ofNat c.toNat :: (layCs (C.drop (i + 1)) ++ z) := by rw [hs]; simp
  have o1 : octN (x :: (layCs C ++ z)) (1 + 2 * i) = (UInt8.ofNat (c.toNat / 256)).toNat := by
   rw [show 1 + 2 * i = (x :: layCs (C.take i)).length by rw [List.length_cons, hl]; omega, e1, octN_at]
  have o2 : octN (x :: (layCs C ++ z)) (2 + 2 * i) = (UInt8.ofNat c.toNat).toNat := by
   rw [show 2 + 2 * i = (x :: (layCs (C.take i) ++ [UInt8.ofNat (c.toNat / 256)])).length by rw [List.length_cons, List.length_append, hl]; simp; omega, e2, octN_at]
  rw [o1, o2, ofNat_lt (by omega), ofNat_lt (by omega), show c.toNat / 256 = 0 by omega]
  simp
  omega
theorem gtK_lay {K : List (List UInt8)} (p z : List UInt8) (h : ∀ i, i < K.length → keyP (K.getD i [])) : ∀ i, i ≤ K.length → gtK (p ++ (layKs K ++ z)) p.length i = (K.take i, p.length + (layKs (K.take i)).length)
 | 0, _ => by simp [gtK]
 | i + 1, hi => by
  have hil : i < K.length := by omega
  have ih := gtK_lay p z h i (by omega)
  have hq := h i hil
  rw [List.getD_eq_getElem?_getD, List.getElem?_eq_getElem hil, Option.getD_some] at hq
  simp only [gtK, ih]
  obtain ⟨k, hkv⟩ : ∃ p, p = K[i] := ⟨_, rfl⟩
  rw [← hkv] at hq
  have h1 : k.length < 256 := by simp only [keyP] at hq; omega
  have ht : K.take (i + 1) = K.take i ++ [k] := by rw [List.take_add_one, List.getElem?_eq_getElem hil, ← hkv]; rfl
  have hs : layKs K = layKs (K.take i) ++ (layT k ++ layKs (K.drop (i + 1))) := by
   have : K = K.take i ++ k :: K.drop (i + 1) := by rw [hkv, ← List.drop_eq_getElem_cons hil, List.take_append_drop]
   rw [show layKs K = layKs (K.take i ++ k :: K.drop (i + 1)) by rw [← this]]
   simp [layKs]
  have hl : p.length + (layKs (K.take i)).length = (p ++ layKs (K.take i)).length := by rw [List.length_append]
  have e1 : p ++ (layKs K ++ z) = (p ++ layKs (K.take i)) ++ (layT k ++ (layKs (K.drop (i + 1)) ++ z)) := by rw [hs]; simp
  have g1 : getN (p ++ (layKs K ++ z)) (p.length + (layKs (K.take i)).length) = (k, (p ++ layKs (K.take i)).length + 1 + k.length) := by rw [hl, e1, getN_at h1]
  rw [g1, ht]
  refine Prod.ext rfl ?_
  rw [show layKs (K.take i ++ [k]) = layKs (K.take i) ++ layT k by simp [layKs]]
  simp only [List.length_append, layT_len]
  omega
theorem firstN_all {n : Nat} {p : Nat → Bool} (h : ∀ i, i < n → p i = false) : firstN n p = n := by
 rcases Nat.lt_or_ge (firstN n p) n with hl | hl
 ·have := firstN_eq hl
  rw [h _ hl] at this; cases this
 ·have := firstN_le n p; omega
theorem pars2_pad {P : List PairB} {K : List (List UInt8)} {C : List Int} (h : OkN P K C) : pars2 (padN P K C) = (P, K, C) := by
 have hlen := padN_len h
 rcases ok_split h with ⟨rfl, rfl, h5⟩ | ⟨rfl, h2, h8, hk⟩
 ·have e : padN P [] [] = [0, UInt8.ofNat P.length] ++ (layPs P ++ List.replicate (508 - (rawN P [] []).length) 0) := padN_leaf
  have h0 : octN (padN P [] []) 0 = 0 := by rw [padN_leaf]; rfl
  have h1 : octN (padN P [] []) 1 = P.length := by rw [padN_leaf]; exact ofNat_lt (by omega)
  have hg : ∀ i, i ≤ P.length → gtP (padN P [] []) i = (P.take i, 2 + (layPs (P.take i)).length) := by rw [e]; exact gtP_lay _ _ rfl h.p
  have hr : rdsP (padN P [] []) P.length = P.length := firstN_all fun i hi => by
   have h1 := layPs_le h.p i (by omega)
   simp only [hg i (by omega), hlen, Bool.not_eq_false', decide_eq_true_eq]
   omega
  rw [pars2, if_pos h0, h1, hr, hg _ (Nat.le_refl _), List.take_length]
 ·have e0 := padN_kids (K := K) (C := C) (by omega)
  have h0 : octN (padN [] K C) 0 = C.length := by rw [e0]; exact ofNat_lt (by omega)
  have hc : gtC (padN [] K C) C.length = C := by rw [e0, gtC_lay _ _ h.c _ (Nat.le_refl _), List.take_length]
  have hcl : (UInt8.ofNat C.length :: layCs C).length = 1 + 2 * C.length := by
   have := layCs_len (C := C) C.length (Nat.le_refl _)
   rw [List.take_length] at this
   rw [List.length_cons, this]; omega
  have e : padN [] K C = (UInt8.ofNat C.length :: layCs C) ++ (layKs K ++ List.replicate (508 - (rawN [] K C).length) 0) := by rw [e0]; simp
  have hg : ∀ i, i ≤ K.length → gtK (padN [] K C) (1 + 2 * C.length) i = (K.take i, 1 + 2 * C.length + (layKs (K.take i)).length) := by
   rw [e, ← hcl]; exact gtK_lay _ _ h.k
  have hr : rdsK (padN [] K C) (1 + 2 * C.length) K.length = K.length := firstN_all fun i hi => by
   have h1 := layKs_le h.k i (by omega)
   simp only [hg i (by omega), hlen, Bool.not_eq_false', decide_eq_true_eq]
   omega
  rw [pars2, if_neg (by omega), h0, hc, ← hk, hr, hg _ (Nat.le_refl _), List.take_length]
theorem dec_page {P : List PairB} {K : List (List UInt8)} {C : List Int} (h : mayN P K C = true) : decN (pageN P K C) = (P, K, C, 0) := by
 have ho := okN_of h
 have e : openD (pageN P K C) = (padN P K C, 0) := open_seal _
 rw [decN, if_pos (pageN_len ho), e]
 simp only [if_true]
 rw [pars_pad ho]
 simp only [h, true_and, if_true]
theorem dec2_page {P : List PairB} {K : List (List UInt8)} {C : List Int} (h : mayN P K C = true) : dec2 (pageN P K C) = (P, K, C, 0) := by
 have ho := okN_of h
 have e : openD (pageN P K C) = (padN P K C, 0) := open_seal _
 rw [dec2, if_pos (pageN_len ho), e]
 simp only [if_true]
 rw [pars2_pad ho]
 simp only [h, true_and, if_true]
theorem openD_six {b : List UInt8} (h : 4 ≤ b.length) (h0 : (openD b).2 ≠ 0) : (openD b).2 = 6 := by
 unfold openD at h0 ⊢
 rw [if_neg (by omega)] at h0 ⊢
 split
 ·rename_i hh; rw [if_pos hh] at h0; exact absurd rfl h0
 ·rfl
theorem dec_same (b : List UInt8) : decN b = dec2 b := by
 by_cases h1 : mayN (parsN (openD b).1).1 (parsN (openD b).1).2.1 (parsN (openD b).1).2.2 = true ∧ pageN (parsN (openD b).1).1 (parsN (openD b).1).2.1 (parsN (openD b).1).2.2 = b
 ·obtain ⟨h1, h2⟩ := h1
  have e1 := dec_page h1
  have e2 := dec2_page h1
  rw [h2] at e1 e2
  rw [e1, e2]
 ·by_cases h2 : mayN (pars2 (openD b).1).1 (pars2 (openD b).1).2.1 (pars2 (openD b).1).2.2 = true ∧ pageN (pars2 (openD b).1).1 (pars2 (openD b).1).2.1 (pars2 (openD b).1).2.2 = b
  ·obtain ⟨h1, h2⟩ := h2
   have e1 := dec_page h1
   have e2 := dec2_page h1
   rw [h2] at e1 e2
   rw [e1, e2]
  ·unfold decN dec2
   rw [if_neg h1, if_neg h2]
   by_cases h5 : b.length = 512
   ·rw [if_pos h5, if_pos h5]
    by_cases h0 : (openD b).2 = 0
    ·rw [if_pos h0, if_pos h0]
    ·rw [if_neg h0, if_neg h0, openD_six (by omega) h0]
   ·rw [if_neg h5, if_neg h5]
end Go.Val.Ytgjmpefhjdgkoaa
