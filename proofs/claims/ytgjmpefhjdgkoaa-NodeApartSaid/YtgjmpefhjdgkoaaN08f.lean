/- Chapter 08: what a node is laid down as, walked. -/
import Derived.Test.YtgjmpefhjdgkoaaN08e
namespace Go.Val.Ytgjmpefhjdgkoaa
open Go Go.Val Go.Proofs Go.Proofs.Ytgjmpefhjdgkoaa
attribute [local irreducible] Ev EvD EvC thenQ blockQ RoundG RetQ
set_option maxRecDepth 100000
set_option maxHeartbeats 4000000
set_option linter.unusedSimpArgs false
set_option linter.unusedVariables false
def layT (s : List UInt8) : List UInt8 := UInt8.ofNat s.length :: s
theorem layT_len (s : List UInt8) : (layT s).length = s.length + 1 := rfl
def layPs (P : List PairB) : List UInt8 := (P.map fun p => layT p.1 ++ layT p.2).flatten
def layCs (C : List Int) : List UInt8 := (C.map fun c => beN 2 c.toNat).flatten
def layKs (K : List (List UInt8)) : List UInt8 := (K.map layT).flatten
def headN (P : List PairB) (C : List Int) : List UInt8 := UInt8.ofNat C.length :: (if C.length = 0 then [UInt8.ofNat P.length] else [])
def rawN (P : List PairB) (K : List (List UInt8)) (C : List Int) : List UInt8 := headN P C ++ layPs P ++ layCs C ++ layKs K
def padN (P : List PairB) (K : List (List UInt8)) (C : List Int) : List UInt8 := rawN P K C ++ List.replicate (508 - (rawN P K C).length) 0
def pageN (P : List PairB) (K : List (List UInt8)) (C : List Int) : List UInt8 := sealD (padN P K C)
@[simp] theorem layPs_nil : layPs [] = [] := rfl
@[simp] theorem layCs_nil : layCs [] = [] := rfl
@[simp] theorem layKs_nil : layKs [] = [] := rfl
theorem layPs_take {P : List PairB} {i : Nat} (h : i < P.length) {k v : List UInt8} (hk : P.getD i ([], []) = (k, v)) : layPs (P.take (i + 1)) = layPs (P.take i) ++ (layT k ++ layT v) := by
 rw [List.getD_eq_getElem?_getD, List.getElem?_eq_getElem h] at hk
 simp only [Option.getD_some] at hk
 simp [layPs, List.take_add_one, List.getElem?_eq_getElem h, hk]
theorem layCs_take {C : List Int} {i : Nat} (h : i < C.length) {c : Int} (hc : C.getD i 0 = c) : layCs (C.take (i + 1)) = layCs (C.take i) ++ beN 2 c.toNat := by
 rw [List.getD_eq_getElem?_getD, List.getElem?_eq_getElem h] at hc
 simp only [Option.getD_some] at hc
 simp [layCs, List.take_add_one, List.getElem?_eq_getElem h, hc]
theorem layKs_take {K : List (List UInt8)} {i : Nat} (h : i < K.length) {k : List UInt8} (hk : K.getD i [] = k) : layKs (K.take (i + 1)) = layKs (K.take i) ++ layT k := by
 rw [List.getD_eq_getElem?_getD, List.getElem?_eq_getElem h] at hk
 simp only [Option.getD_some] at hk
 simp [layKs, List.take_add_one, List.getElem?_eq_getElem h, hk]
structure OkN (P : List PairB) (K : List (List UInt8)) (C : List Int) : Prop where
 p : ∀ i, i < P.length → keyP (P.getD i ([], [])).1 ∧ valP (P.getD i ([], [])).2
 k : ∀ i, i < K.length → keyP (K.getD i [])
 c : ∀ i, i < C.length → 0 ≤ C.getD i 0 ∧ C.getD i 0 ≤ 199
 s : (C.length = 0 ∧ K.length = 0 ∧ P.length ≤ 5) ∨ (P.length = 0 ∧ 2 ≤ C.length ∧ C.length ≤ 8 ∧ K.length = C.length - 1)
theorem okN_of {P : List PairB} {K : List (List UInt8)} {C : List Int} (h : mayN P K C = true) : OkN P K C := by
 unfold mayN shapeN at h
 simp only [Bool.and_eq_true, allN_iff, okP, okK, okC, decide_eq_true_eq] at h
 obtain ⟨⟨⟨h1, h2⟩, h3⟩, h4⟩ := h
 refine ⟨fun i hi => (h1 i hi).1, fun i hi => (h2 i hi).1, fun i hi => (h3 i hi).1, ?_⟩
 by_cases z : C.length = 0
 ·rw [if_pos z] at h4
  simp only [Bool.and_eq_true, decide_eq_true_eq] at h4
  exact .inl ⟨z, h4.1, h4.2⟩
 ·rw [if_neg z] at h4
  simp only [Bool.and_eq_true, decide_eq_true_eq] at h4
  obtain ⟨⟨⟨a, b⟩, c⟩, d⟩ := h4
  exact .inr ⟨a, b, c, d⟩
theorem layPs_le {P : List PairB} (h : ∀ i, i < P.length → keyP (P.getD i ([], [])).1 ∧ valP (P.getD i ([], [])).2) : ∀ i, i ≤ P.length → (layPs (P.take i)).length ≤ 86 * i
 | 0, _ => by simp [layPs]
 | i + 1, hi => by
  have ih := layPs_le h i (by omega)
  obtain ⟨h1, h2⟩ := h i (by omega)
  rw [layPs_take (by omega) (rfl : _ = ((P.getD i ([], [])).1, (P.getD i ([], [])).2)), List.length_append, List.length_append, layT_len, layT_len]
  omega
theorem layCs_len {C : List Int} : ∀ i, i ≤ C.length → (layCs (C.take i)).length = 2 * i
 | 0, _ => by simp [layCs]
 | i + 1, hi => by
  have ih := layCs_len (C := C) i (by omega)
  rw [layCs_take (by omega) rfl, List.length_append, beN_len]
  omega
theorem layKs_le {K : List (List UInt8)} (h : ∀ i, i < K.length → keyP (K.getD i [])) : ∀ i, i ≤ K.length → (layKs (K.take i)).length ≤ 25 * i
 | 0, _ => by simp [layKs]
 | i + 1, hi => by
  have ih := layKs_le h i (by omega)
  have h1 := h i (by omega)
  rw [layKs_take (by omega) rfl, List.length_append, layT_len]
  omega
theorem headN_len (P : List PairB) (C : List Int) : (headN P C).length ≤ 2 := by unfold headN; split <;> simp
theorem rawN_le {P : List PairB} {K : List (List UInt8)} {C : List Int} (h : OkN P K C) : (rawN P K C).length ≤ 508 := by
 have h1 := layPs_le h.p P.length (Nat.le_refl _)
 have h2 := layCs_len (C := C) C.length (Nat.le_refl _)
 have h3 := layKs_le h.k K.length (Nat.le_refl _)
 have h4 := headN_len P C
 rw [List.take_length] at h1 h2 h3
 unfold rawN
 rw [List.length_append, List.length_append, List.length_append]
 rcases h.s with ⟨a, b, c⟩ | ⟨a, b, c, d⟩
 ·rw [a] at h2; rw [b] at h3; omega
 ·rw [a] at h1; omega
theorem padN_len {P : List PairB} {K : List (List UInt8)} {C : List Int} (h : OkN P K C) : (padN P K C).length = 508 := by
 have := rawN_le h
 unfold padN
 rw [List.length_append, List.length_replicate]
 omega
theorem sealD_len (b : List UInt8) : (sealD b).length = b.length + 4 := by simp [sealD, sumD]
theorem pageN_len {P : List PairB} {K : List (List UInt8)} {C : List Int} (h : OkN P K C) : (pageN P K C).length = 512 := by
 unfold pageN; rw [sealD_len, padN_len h]
theorem c_bursarref08_Encode (P : List PairB) (K : List (List UInt8)) (C : List Int) (hC : mayN P K C = true) : Pure Try.prog n_bursarref08_Encode [nodeD P K C] (.str (pageN P K C)) := by
 refine Pure.go tok (rs := [.tmp 2]) [nodeD P K C, .undef, .undef, .undef, .undef, .undef, .undef, .undef, .undef, .undef, .undef, .undef, .undef, .undef, .undef, .undef, .undef, .undef, .undef, .undef, .undef, .undef, .undef, .undef, .undef, .undef, .undef, .undef, .undef, .undef, .undef, .undef, .undef, .undef, .undef, .undef, .undef, .undef, .undef, .undef, .undef, .undef, .undef, .undef, .undef, .undef, .undef, .undef, .undef, .undef, .undef, .undef, .undef, .undef, .undef, .undef, .undef, .undef, .undef, .undef, .undef, .undef, .undef, .undef, .undef, .undef, .undef, .undef, .undef, .undef, .undef, .undef, .undef, .undef, .undef, .undef, .undef, .undef, .undef, .undef, .undef, .undef, .undef, .undef, .undef] Try.func32 (fun σ => ?_)
 have ho := okN_of hC
 have hs := ho.s
 have hsP := pairsD_len P
 have hsK := strsD_len K
 have hsC := kidsD_len C
 have hraw := rawN_le ho
 have hb : P.length ≤ 5 ∧ C.length ≤ 8 ∧ K.length ≤ 7 := by omega
 have nC : IntKind.u64.wrap (C.length : Int) = (C.length : Int) := wrap_u64_id (by omega) (by omega)
 have nP : IntKind.u64.wrap (P.length : Int) = (P.length : Int) := wrap_u64_id (by omega) (by omega)
 obtain ⟨hd, hhd⟩ : ∃ hd, hd = headN P C := ⟨_, rfl⟩
 have hdl := headN_len P C
 rw [← hhd] at hdl
 by_cases z0 : C.length = 0
 ·have f0 : decide ((C.length : Int) = 0) = true := by rw [z0]; rfl
  have e0 : UInt8.ofNat C.length :: [UInt8.ofNat P.length] = hd := by rw [hhd, headN, if_pos z0]
  have hP := layPs_le ho.p
  repeat' (first | (show Ev _ (.region _ _ true) _ _; first | refine D_start [50, 51, 61, 62, 82, 85] mix ?_ | refine D_startA [50, 51, 61, 62, 82, 85, 99998] mix ?_ | refine D_startA [50, 51, 61, 62, 82, 85] mix ?_) | (show DrD _ _ _ [] _ _ _ _; refine D_nil ?_; try dsimp only) | (show DrD _ (EB _ _) _ (_ :: _) _ _ _ _; first | refine D_runL tok ?_ ?_ (h := by intro R; simp (maxSteps := 1000000) (disch := omega) only [go_sem, nC, nP, f0, beN_one]; with_reducible exact rfl)) | (show DrD _ EA _ (_ :: _) _ _ _ _; first | refine D_runLA tok ?_ ?_ (h := by intro R; simp (maxSteps := 1000000) (disch := omega) only [go_sem, nC, nP, f0, beN_one]; with_reducible exact rfl)) | (show DrD _ _ _ (_ :: _) _ _ _ _; first | refine D_con ?_ ?_ | refine D_store tok ?_ ?_ | refine D_eff tok ?_ ?_ | refine D_hold tok ?_ ?_ | refine D_hold tok ?_ ?_ (h := by simp (maxSteps := 1000000) (disch := omega) only [go_sem, nC, nP, f0, beN_one]; with_reducible exact rfl) | refine D_store tok ?_ ?_ (h := by simp (maxSteps := 1000000) (disch := omega) only [go_sem, nC, nP, f0, beN_one]; with_reducible exact rfl)) | (show Ev _ _ _ _; first | refine Ev_seq ?_ | refine W_reg ?_ | refine Ev_block ?_ | refine W_ifT ?_ | refine W_ifF ?_ | refine W_ifY ?_ | refine W_ifN ?_ | refine W_ifP (fun h => ?_) (fun h => ?_) | refine W_ifB (fun h => ?_) (fun h => ?_) | refine Ev_skip ?_ | refine Ev_exit ?_ | refine Ev_ret ?_) | (show EvD _ _ [] _ _ _; refine W_nil ?_) | (show EvD _ _ (_ :: _) _ _ _; first | refine W_run tok ?_ ?_ (by simp (maxSteps := 1000000) (disch := omega) only [go_sem, nC, nP, f0, beN_one]; with_reducible exact rfl) | refine W_callee ?_) | (show EvC _ _ _ _ _ _ _ _ _; first | refine W_con ?_ ?_ | refine W_weak ?_) | (show RetQ _ _ (RP _ _) _ _; refine R_ret ?_ ?_) | (show FrzTo _ _ _ _; first | refine F_row ?_ | refine F_weak ?_) | refine Q_thenN ?_ | refine Q_thenE ?_ | refine Q_thenR ?_ | refine Q_blkN ?_ | refine Q_blkE ?_ | (show blockQ _ _ _ _; refine Q_blkX ?_) | refine Q_blkR ?_ | refine Q_rndE ?_ | refine Q_rndR ?_)
  all_goals (try exact sd)
  all_goals (try refine F_done ?_)
  rw [show [UInt8.ofNat C.length, UInt8.ofNat P.length] = hd from e0]
  refine Ev_lp (P.length) (fun i => [(3, .str (hd ++ layPs (P.take i))), (4, i64 i)]) (fun i => ⟨σ.rows, σ.boxes ++ [some ⟨42, [.sl (pairsD P), .sl (strsD K), .sl (kidsD C)]⟩], σ.maps⟩) [23, 24, 25, 26, 27, 28, 29, 30, 31, 32, 33, 34, 35, 36, 37, 38, 39, 40, 41, 42, 43, 44, 45, 46] ?_ (by first | rfl | (simp only [List.take_zero, List.append_nil]; done)) (fun i hi => ?_)
  ·exact le1
  by_cases hi' : i < P.length
  ·obtain ⟨k, v, hk, hg⟩ := pget hi'
   have hkv := ho.p i hi'
   rw [hk] at hkv
   obtain ⟨⟨q1, q2⟩, q3⟩ := hkv
   simp only at q1 q2 q3
   have ht := layPs_take hi' hk
   have hl := hP i (by omega)
   repeat' (first | (show Ev _ (.region _ _ true) _ _; first | refine D_start [50, 51, 61, 62, 82, 85] mix ?_ | refine D_startA [50, 51, 61, 62, 82, 85, 99998] mix ?_ | refine D_startA [50, 51, 61, 62, 82, 85] mix ?_) | (show DrD _ _ _ [] _ _ _ _; refine D_nil ?_; try dsimp only) | (show DrD _ (EB _ _) _ (_ :: _) _ _ _ _; first | refine D_runL tok ?_ ?_ (h := by intro R; simp (maxSteps := 1000000) (disch := omega) only [go_sem, wrap_i64_id, hg]; with_reducible exact rfl)) | (show DrD _ EA _ (_ :: _) _ _ _ _; first | refine D_runLA tok ?_ ?_ (h := by intro R; simp (maxSteps := 1000000) (disch := omega) only [go_sem, wrap_i64_id, hg]; with_reducible exact rfl)) | (show DrD _ _ _ (_ :: _) _ _ _ _; first | refine D_con ?_ ?_ | refine D_store tok ?_ ?_ | refine D_eff tok ?_ ?_ | refine D_hold tok ?_ ?_ | refine D_hold tok ?_ ?_ (h := by simp (maxSteps := 1000000) (disch := omega) only [go_sem, wrap_i64_id, hg]; with_reducible exact rfl) | refine D_store tok ?_ ?_ (h := by simp (maxSteps := 1000000) (disch := omega) only [go_sem, wrap_i64_id, hg]; with_reducible exact rfl)) | (show Ev _ _ _ _; first | refine Ev_seq ?_ | refine W_reg ?_ | refine Ev_block ?_ | refine W_ifT ?_ | refine W_ifF ?_ | refine W_ifY ?_ | refine W_ifN ?_ | refine W_ifP (fun h => ?_) (fun h => ?_) | refine W_ifB (fun h => ?_) (fun h => ?_) | refine Ev_skip ?_ | refine Ev_exit ?_ | refine Ev_ret ?_) | (show EvD _ _ [] _ _ _; refine W_nil ?_) | (show EvD _ _ (_ :: _) _ _ _; first | refine W_run tok ?_ ?_ (by simp (maxSteps := 1000000) (disch := omega) only [go_sem, wrap_i64_id, hg]; with_reducible exact rfl) | refine W_callee ?_) | (show EvC _ _ _ _ _ _ _ _ _; first | refine W_con ?_ ?_ | refine W_weak ?_) | (show RetQ _ _ (RP _ _) _ _; refine R_ret ?_ ?_) | (show FrzTo _ _ _ _; first | refine F_row ?_ | refine F_weak ?_) | refine Q_thenN ?_ | refine Q_thenE ?_ | refine Q_thenR ?_ | refine Q_blkN ?_ | refine Q_blkE ?_ | (show blockQ _ _ _ _; refine Q_blkX ?_) | refine Q_blkR ?_ | refine Q_rndE ?_ | refine Q_rndR ?_)
   all_goals (try exact sd)
   all_goals (try refine F_done ?_)
   refine Q_rndN ?_ (by omega) ?_
   rotate_left
   ·rfl
   repeat (first | exact LeL.nil | refine LeL.cons2 ?_ (Le.undef _) | refine LeL.cons2 ?_ (Le.refl _) | refine LeL.cons2 ?_ (Le.sl _) | refine LeL.cons2 ?_ (Le.eq (by first | rfl | exact congrArg _ (by omega))) | refine LeL.cons2 ?_ (Le.eq ?_))
   all_goals first | (rw [ht]; done) | (rw [ht, List.append_assoc]; done) | (rw [ht]; simp [layT]; done) | skip
  ·obtain rfl : i = P.length := by omega
   have hl := hP P.length (Nat.le_refl _)
   rw [List.take_length] at hl ⊢
   repeat' (first | (show Ev _ (.region _ _ true) _ _; first | refine D_start [50, 51, 61, 62, 82, 85] mix ?_ | refine D_startA [50, 51, 61, 62, 82, 85, 99998] mix ?_ | refine D_startA [50, 51, 61, 62, 82, 85] mix ?_) | (show DrD _ _ _ [] _ _ _ _; refine D_nil ?_; try dsimp only) | (show DrD _ (EB _ _) _ (_ :: _) _ _ _ _; first | refine D_runL tok ?_ ?_ (h := by intro R; simp (maxSteps := 1000000) (disch := omega) only [go_sem, wrap_i64_id]; with_reducible exact rfl)) | (show DrD _ EA _ (_ :: _) _ _ _ _; first | refine D_runLA tok ?_ ?_ (h := by intro R; simp (maxSteps := 1000000) (disch := omega) only [go_sem, wrap_i64_id]; with_reducible exact rfl)) | (show DrD _ _ _ (_ :: _) _ _ _ _; first | refine D_con ?_ ?_ | refine D_store tok ?_ ?_ | refine D_eff tok ?_ ?_ | refine D_hold tok ?_ ?_ | refine D_hold tok ?_ ?_ (h := by simp (maxSteps := 1000000) (disch := omega) only [go_sem, wrap_i64_id]; with_reducible exact rfl) | refine D_store tok ?_ ?_ (h := by simp (maxSteps := 1000000) (disch := omega) only [go_sem, wrap_i64_id]; with_reducible exact rfl)) | (show Ev _ _ _ _; first | refine Ev_seq ?_ | refine W_reg ?_ | refine Ev_block ?_ | refine W_ifT ?_ | refine W_ifF ?_ | refine W_ifY ?_ | refine W_ifN ?_ | refine W_ifP (fun h => ?_) (fun h => ?_) | refine W_ifB (fun h => ?_) (fun h => ?_) | refine Ev_skip ?_ | refine Ev_exit ?_ | refine Ev_ret ?_) | (show EvD _ _ [] _ _ _; refine W_nil ?_) | (show EvD _ _ (_ :: _) _ _ _; first | refine W_run tok ?_ ?_ (by simp (maxSteps := 1000000) (disch := omega) only [go_sem, wrap_i64_id]; with_reducible exact rfl) | refine W_callee ?_) | (show EvC _ _ _ _ _ _ _ _ _; first | refine W_con ?_ ?_ | refine W_weak ?_) | (show RetQ _ _ (RP _ _) _ _; refine R_ret ?_ ?_) | (show FrzTo _ _ _ _; first | refine F_row ?_ | refine F_weak ?_) | refine Q_thenN ?_ | refine Q_thenE ?_ | refine Q_thenR ?_ | refine Q_blkN ?_ | refine Q_blkE ?_ | (show blockQ _ _ _ _; refine Q_blkX ?_) | refine Q_blkR ?_ | refine Q_rndE ?_ | refine Q_rndR ?_)
   all_goals (try exact sd)
   all_goals (try refine F_done ?_)
   refine Ev_lp (0) (fun i => [(3, .str (hd ++ layPs P)), (5, i64 i)]) (fun i => ⟨σ.rows, σ.boxes ++ [some ⟨42, [.sl (pairsD P), .sl (strsD K), .sl (kidsD C)]⟩], σ.maps⟩) [47, 48, 49, 50, 51, 52, 53, 54, 55, 56, 57, 58, 59, 60, 61, 62] ?_ (by first | rfl | (simp only [List.take_zero, List.append_nil]; done)) (fun i hi => ?_)
   ·exact le1
   obtain rfl : i = 0 := by omega
   repeat' (first | (show Ev _ (.region _ _ true) _ _; first | refine D_start [50, 51, 61, 62, 82, 85] mix ?_ | refine D_startA [50, 51, 61, 62, 82, 85, 99998] mix ?_ | refine D_startA [50, 51, 61, 62, 82, 85] mix ?_) | (show DrD _ _ _ [] _ _ _ _; refine D_nil ?_; try dsimp only) | (show DrD _ (EB _ _) _ (_ :: _) _ _ _ _; first | refine D_runL tok ?_ ?_ (h := by intro R; simp (maxSteps := 1000000) (disch := omega) only [go_sem, wrap_i64_id]; with_reducible exact rfl)) | (show DrD _ EA _ (_ :: _) _ _ _ _; first | refine D_runLA tok ?_ ?_ (h := by intro R; simp (maxSteps := 1000000) (disch := omega) only [go_sem, wrap_i64_id]; with_reducible exact rfl)) | (show DrD _ _ _ (_ :: _) _ _ _ _; first | refine D_con ?_ ?_ | refine D_store tok ?_ ?_ | refine D_eff tok ?_ ?_ | refine D_hold tok ?_ ?_ | refine D_hold tok ?_ ?_ (h := by simp (maxSteps := 1000000) (disch := omega) only [go_sem, wrap_i64_id]; with_reducible exact rfl) | refine D_store tok ?_ ?_ (h := by simp (maxSteps := 1000000) (disch := omega) only [go_sem, wrap_i64_id]; with_reducible exact rfl)) | (show Ev _ _ _ _; first | refine Ev_seq ?_ | refine W_reg ?_ | refine Ev_block ?_ | refine W_ifT ?_ | refine W_ifF ?_ | refine W_ifY ?_ | refine W_ifN ?_ | refine W_ifP (fun h => ?_) (fun h => ?_) | refine W_ifB (fun h => ?_) (fun h => ?_) | refine Ev_skip ?_ | refine Ev_exit ?_ | refine Ev_ret ?_) | (show EvD _ _ [] _ _ _; refine W_nil ?_) | (show EvD _ _ (_ :: _) _ _ _; first | refine W_run tok ?_ ?_ (by simp (maxSteps := 1000000) (disch := omega) only [go_sem, wrap_i64_id]; with_reducible exact rfl) | refine W_callee ?_) | (show EvC _ _ _ _ _ _ _ _ _; first | refine W_con ?_ ?_ | refine W_weak ?_) | (show RetQ _ _ (RP _ _) _ _; refine R_ret ?_ ?_) | (show FrzTo _ _ _ _; first | refine F_row ?_ | refine F_weak ?_) | refine Q_thenN ?_ | refine Q_thenE ?_ | refine Q_thenR ?_ | refine Q_blkN ?_ | refine Q_blkE ?_ | (show blockQ _ _ _ _; refine Q_blkX ?_) | refine Q_blkR ?_ | refine Q_rndE ?_ | refine Q_rndR ?_)
   all_goals (try exact sd)
   all_goals (try refine F_done ?_)
   refine Ev_lp (0) (fun i => [(3, .str (hd ++ layPs P)), (6, i64 i)]) (fun i => ⟨σ.rows, σ.boxes ++ [some ⟨42, [.sl (pairsD P), .sl (strsD K), .sl (kidsD C)]⟩], σ.maps⟩) [63, 64, 65, 66, 67, 68, 69, 70, 71, 72, 73, 74, 75, 76, 77] ?_ (by first | rfl | (simp only [List.take_zero, List.append_nil]; done)) (fun i hi => ?_)
   ·exact le1
   obtain rfl : i = 0 := by omega
   have hrw : hd ++ layPs P = rawN P K C := by
    have c0 : C = [] := List.length_eq_zero_iff.1 z0
    have k0 : K = [] := List.length_eq_zero_iff.1 (by omega)
    unfold rawN
    rw [← hhd, c0, k0]
    simp [layCs, layKs]
   repeat' (first | (show Ev _ (.region _ _ true) _ _; first | refine D_start [50, 51, 61, 62, 82, 85] mix ?_ | refine D_startA [50, 51, 61, 62, 82, 85, 99998] mix ?_ | refine D_startA [50, 51, 61, 62, 82, 85] mix ?_) | (show DrD _ _ _ [] _ _ _ _; refine D_nil ?_; try dsimp only) | (show DrD _ (EB _ _) _ (_ :: _) _ _ _ _; first | refine D_runL tok ?_ ?_ (h := by intro R; simp (maxSteps := 1000000) (disch := omega) only [go_sem, wrap_i64_id]; with_reducible exact rfl)) | (show DrD _ EA _ (_ :: _) _ _ _ _; first | refine D_runLA tok ?_ ?_ (h := by intro R; simp (maxSteps := 1000000) (disch := omega) only [go_sem, wrap_i64_id]; with_reducible exact rfl)) | (show DrD _ _ _ (_ :: _) _ _ _ _; first | refine D_con ?_ ?_ | refine D_store tok ?_ ?_ | refine D_eff tok ?_ ?_ | refine D_hold tok ?_ ?_ | refine D_hold tok ?_ ?_ (h := by simp (maxSteps := 1000000) (disch := omega) only [go_sem, wrap_i64_id]; with_reducible exact rfl) | refine D_store tok ?_ ?_ (h := by simp (maxSteps := 1000000) (disch := omega) only [go_sem, wrap_i64_id]; with_reducible exact rfl)) | (show Ev _ _ _ _; first | refine Ev_seq ?_ | refine W_reg ?_ | refine Ev_block ?_ | refine W_ifT ?_ | refine W_ifF ?_ | refine W_ifY ?_ | refine W_ifN ?_ | refine W_ifP (fun h => ?_) (fun h => ?_) | refine W_ifB (fun h => ?_) (fun h => ?_) | refine Ev_skip ?_ | refine Ev_exit ?_ | refine Ev_ret ?_) | (show EvD _ _ [] _ _ _; refine W_nil ?_) | (show EvD _ _ (_ :: _) _ _ _; first | refine W_run tok ?_ ?_ (by simp (maxSteps := 1000000) (disch := omega) only [go_sem, wrap_i64_id]; with_reducible exact rfl) | refine W_callee ?_) | (show EvC _ _ _ _ _ _ _ _ _; first | refine W_con ?_ ?_ | refine W_weak ?_) | (show RetQ _ _ (RP _ _) _ _; refine R_ret ?_ ?_) | (show FrzTo _ _ _ _; first | refine F_row ?_ | refine F_weak ?_) | refine Q_thenN ?_ | refine Q_thenE ?_ | refine Q_thenR ?_ | refine Q_blkN ?_ | refine Q_blkE ?_ | (show blockQ _ _ _ _; refine Q_blkX ?_) | refine Q_blkR ?_ | refine Q_rndE ?_ | refine Q_rndR ?_)
   all_goals (try exact sd)
   all_goals (try refine F_done ?_)
   rw [hrw]
   refine Ev_lp (508 - (rawN P K C).length) (fun i => [(3, .str (rawN P K C ++ List.replicate i 0))]) (fun i => ⟨σ.rows, σ.boxes ++ [some ⟨42, [.sl (pairsD P), .sl (strsD K), .sl (kidsD C)]⟩], σ.maps⟩) [78, 79, 80, 81, 82] ?_ (by first | rfl | (simp only [List.take_zero, List.append_nil]; done)) (fun i hi => ?_)
   ·exact le1
   have hrl : (rawN P K C ++ List.replicate i (0 : UInt8)).length = (rawN P K C).length + i := by rw [List.length_append, List.length_replicate]
   by_cases hi' : i < 508 - (rawN P K C).length
   ·repeat' (first | (show Ev _ (.region _ _ true) _ _; first | refine D_start [50, 51, 61, 62, 82, 85] mix ?_ | refine D_startA [50, 51, 61, 62, 82, 85, 99998] mix ?_ | refine D_startA [50, 51, 61, 62, 82, 85] mix ?_) | (show DrD _ _ _ [] _ _ _ _; refine D_nil ?_; try dsimp only) | (show DrD _ (EB _ _) _ (_ :: _) _ _ _ _; first | refine D_runL tok ?_ ?_ (h := by intro R; simp (maxSteps := 1000000) (disch := omega) only [go_sem, wrap_i64_id, hrl]; with_reducible exact rfl)) | (show DrD _ EA _ (_ :: _) _ _ _ _; first | refine D_runLA tok ?_ ?_ (h := by intro R; simp (maxSteps := 1000000) (disch := omega) only [go_sem, wrap_i64_id, hrl]; with_reducible exact rfl)) | (show DrD _ _ _ (_ :: _) _ _ _ _; first | refine D_con ?_ ?_ | refine D_store tok ?_ ?_ | refine D_eff tok ?_ ?_ | refine D_hold tok ?_ ?_ | refine D_hold tok ?_ ?_ (h := by simp (maxSteps := 1000000) (disch := omega) only [go_sem, wrap_i64_id, hrl]; with_reducible exact rfl) | refine D_store tok ?_ ?_ (h := by simp (maxSteps := 1000000) (disch := omega) only [go_sem, wrap_i64_id, hrl]; with_reducible exact rfl)) | (show Ev _ _ _ _; first | refine Ev_seq ?_ | refine W_reg ?_ | refine Ev_block ?_ | refine W_ifT ?_ | refine W_ifF ?_ | refine W_ifY ?_ | refine W_ifN ?_ | refine W_ifP (fun h => ?_) (fun h => ?_) | refine W_ifB (fun h => ?_) (fun h => ?_) | refine Ev_skip ?_ | refine Ev_exit ?_ | refine Ev_ret ?_) | (show EvD _ _ [] _ _ _; refine W_nil ?_) | (show EvD _ _ (_ :: _) _ _ _; first | refine W_run tok ?_ ?_ (by simp (maxSteps := 1000000) (disch := omega) only [go_sem, wrap_i64_id, hrl]; with_reducible exact rfl) | refine W_callee ?_) | (show EvC _ _ _ _ _ _ _ _ _; first | refine W_con ?_ ?_ | refine W_weak ?_) | (show RetQ _ _ (RP _ _) _ _; refine R_ret ?_ ?_) | (show FrzTo _ _ _ _; first | refine F_row ?_ | refine F_weak ?_) | refine Q_thenN ?_ | refine Q_thenE ?_ | refine Q_thenR ?_ | refine Q_blkN ?_ | refine Q_blkE ?_ | (show blockQ _ _ _ _; refine Q_blkX ?_) | refine Q_blkR ?_ | refine Q_rndE ?_ | refine Q_rndR ?_)
    all_goals (try exact sd)
    all_goals (try refine F_done ?_)
    refine Q_rndN ?_ (by omega) ?_
    rotate_left
    ·rfl
    repeat (first | exact LeL.nil | refine LeL.cons2 ?_ (Le.undef _) | refine LeL.cons2 ?_ (Le.refl _) | refine LeL.cons2 ?_ (Le.sl _) | refine LeL.cons2 ?_ (Le.eq (by first | rfl | exact congrArg _ (by omega))) | refine LeL.cons2 ?_ (Le.eq ?_))
    rw [List.replicate_succ']
   ·obtain rfl : i = 508 - (rawN P K C).length := by omega
    have hpl := padN_len ho
    repeat' (first | (show Ev _ (.region _ _ true) _ _; first | refine D_start [50, 51, 61, 62, 82, 85] mix ?_ | refine D_startA [50, 51, 61, 62, 82, 85, 99998] mix ?_ | refine D_startA [50, 51, 61, 62, 82, 85] mix ?_) | (show DrD _ _ _ [] _ _ _ _; refine D_nil ?_; try dsimp only) | (show DrD _ (EB _ _) _ (_ :: _) _ _ _ _; first | refine D_runL tok ?_ ?_ (h := by intro R; simp (maxSteps := 1000000) (disch := omega) only [go_sem, wrap_i64_id, hrl]; with_reducible exact rfl)) | (show DrD _ EA _ (_ :: _) _ _ _ _; first | refine D_runLA tok ?_ ?_ (h := by intro R; simp (maxSteps := 1000000) (disch := omega) only [go_sem, wrap_i64_id, hrl]; with_reducible exact rfl)) | (show DrD _ _ _ (_ :: _) _ _ _ _; first | refine D_con ?_ ?_ | refine D_store tok ?_ ?_ | refine D_eff tok ?_ ?_ | refine D_hold tok ?_ ?_ | refine D_hold tok ?_ ?_ (h := by simp (maxSteps := 1000000) (disch := omega) only [go_sem, wrap_i64_id, hrl]; with_reducible exact rfl) | refine D_store tok ?_ ?_ (h := by simp (maxSteps := 1000000) (disch := omega) only [go_sem, wrap_i64_id, hrl]; with_reducible exact rfl)) | (show Ev _ _ _ _; first | refine Ev_seq ?_ | refine W_reg ?_ | refine Ev_block ?_ | refine W_ifT ?_ | refine W_ifF ?_ | refine W_ifY ?_ | refine W_ifN ?_ | refine W_ifP (fun h => ?_) (fun h => ?_) | refine W_ifB (fun h => ?_) (fun h => ?_) | refine Ev_skip ?_ | refine Ev_exit ?_ | refine Ev_ret ?_) | (show EvD _ _ [] _ _ _; refine W_nil ?_) | (show EvD _ _ (_ :: _) _ _ _; first | refine W_run tok ?_ ?_ (by simp (maxSteps := 1000000) (disch := omega) only [go_sem, wrap_i64_id, hrl]; with_reducible exact rfl) | refine W_callee ?_) | (show EvC _ _ _ _ _ _ _ _ _; first | refine W_con ?_ ?_ | refine W_weak ?_) | (show RetQ _ _ (RP _ _) _ _; refine R_ret ?_ ?_) | (show FrzTo _ _ _ _; first | refine F_row ?_ | refine F_weak ?_) | refine Q_thenN ?_ | refine Q_thenE ?_ | refine Q_thenR ?_ | refine Q_blkN ?_ | refine Q_blkE ?_ | (show blockQ _ _ _ _; refine Q_blkX ?_) | refine Q_blkR ?_ | refine Q_rndE ?_ | refine Q_rndR ?_)
    all_goals (try exact sd)
    all_goals (try refine F_done ?_)
    all_goals first | rfl | skip
 ·have f0 : decide ((C.length : Int) = 0) = false := decide_eq_false (by omega)
  have e0 : [UInt8.ofNat C.length] = hd := by rw [hhd, headN, if_neg z0]
  have hK := layKs_le ho.k
  repeat' (first | (show Ev _ (.region _ _ true) _ _; first | refine D_start [50, 51, 61, 62, 82, 85] mix ?_ | refine D_startA [50, 51, 61, 62, 82, 85, 99998] mix ?_ | refine D_startA [50, 51, 61, 62, 82, 85] mix ?_) | (show DrD _ _ _ [] _ _ _ _; refine D_nil ?_; try dsimp only) | (show DrD _ (EB _ _) _ (_ :: _) _ _ _ _; first | refine D_runL tok ?_ ?_ (h := by intro R; simp (maxSteps := 1000000) (disch := omega) only [go_sem, nC, f0, beN_one]; with_reducible exact rfl)) | (show DrD _ EA _ (_ :: _) _ _ _ _; first | refine D_runLA tok ?_ ?_ (h := by intro R; simp (maxSteps := 1000000) (disch := omega) only [go_sem, nC, f0, beN_one]; with_reducible exact rfl)) | (show DrD _ _ _ (_ :: _) _ _ _ _; first | refine D_con ?_ ?_ | refine D_store tok ?_ ?_ | refine D_eff tok ?_ ?_ | refine D_hold tok ?_ ?_ | refine D_hold tok ?_ ?_ (h := by simp (maxSteps := 1000000) (disch := omega) only [go_sem, nC, f0, beN_one]; with_reducible exact rfl) | refine D_store tok ?_ ?_ (h := by simp (maxSteps := 1000000) (disch := omega) only [go_sem, nC, f0, beN_one]; with_reducible exact rfl)) | (show Ev _ _ _ _; first | refine Ev_seq ?_ | refine W_reg ?_ | refine Ev_block ?_ | refine W_ifT ?_ | refine W_ifF ?_ | refine W_ifY ?_ | refine W_ifN ?_ | refine W_ifP (fun h => ?_) (fun h => ?_) | refine W_ifB (fun h => ?_) (fun h => ?_) | refine Ev_skip ?_ | refine Ev_exit ?_ | refine Ev_ret ?_) | (show EvD _ _ [] _ _ _; refine W_nil ?_) | (show EvD _ _ (_ :: _) _ _ _; first | refine W_run tok ?_ ?_ (by simp (maxSteps := 1000000) (disch := omega) only [go_sem, nC, f0, beN_one]; with_reducible exact rfl) | refine W_callee ?_) | (show EvC _ _ _ _ _ _ _ _ _; first | refine W_con ?_ ?_ | refine W_weak ?_) | (show RetQ _ _ (RP _ _) _ _; refine R_ret ?_ ?_) | (show FrzTo _ _ _ _; first | refine F_row ?_ | refine F_weak ?_) | refine Q_thenN ?_ | refine Q_thenE ?_ | refine Q_thenR ?_ | refine Q_blkN ?_ | refine Q_blkE ?_ | (show blockQ _ _ _ _; refine Q_blkX ?_) | refine Q_blkR ?_ | refine Q_rndE ?_ | refine Q_rndR ?_)
  all_goals (try exact sd)
  all_goals (try refine F_done ?_)
  rw [e0]
  refine Ev_lp (0) (fun i => [(3, .str hd), (4, i64 i)]) (fun i => ⟨σ.rows, σ.boxes ++ [some ⟨42, [.sl (pairsD P), .sl (strsD K), .sl (kidsD C)]⟩], σ.maps⟩) [23, 24, 25, 26, 27, 28, 29, 30, 31, 32, 33, 34, 35, 36, 37, 38, 39, 40, 41, 42, 43, 44, 45, 46] ?_ (by first | rfl | (simp only [List.take_zero, List.append_nil]; done)) (fun i hi => ?_)
  ·exact le1
  obtain rfl : i = 0 := by omega
  repeat' (first | (show Ev _ (.region _ _ true) _ _; first | refine D_start [50, 51, 61, 62, 82, 85] mix ?_ | refine D_startA [50, 51, 61, 62, 82, 85, 99998] mix ?_ | refine D_startA [50, 51, 61, 62, 82, 85] mix ?_) | (show DrD _ _ _ [] _ _ _ _; refine D_nil ?_; try dsimp only) | (show DrD _ (EB _ _) _ (_ :: _) _ _ _ _; first | refine D_runL tok ?_ ?_ (h := by intro R; simp (maxSteps := 1000000) (disch := omega) only [go_sem, wrap_i64_id]; with_reducible exact rfl)) | (show DrD _ EA _ (_ :: _) _ _ _ _; first | refine D_runLA tok ?_ ?_ (h := by intro R; simp (maxSteps := 1000000) (disch := omega) only [go_sem, wrap_i64_id]; with_reducible exact rfl)) | (show DrD _ _ _ (_ :: _) _ _ _ _; first | refine D_con ?_ ?_ | refine D_store tok ?_ ?_ | refine D_eff tok ?_ ?_ | refine D_hold tok ?_ ?_ | refine D_hold tok ?_ ?_ (h := by simp (maxSteps := 1000000) (disch := omega) only [go_sem, wrap_i64_id]; with_reducible exact rfl) | refine D_store tok ?_ ?_ (h := by simp (maxSteps := 1000000) (disch := omega) only [go_sem, wrap_i64_id]; with_reducible exact rfl)) | (show Ev _ _ _ _; first | refine Ev_seq ?_ | refine W_reg ?_ | refine Ev_block ?_ | refine W_ifT ?_ | refine W_ifF ?_ | refine W_ifY ?_ | refine W_ifN ?_ | refine W_ifP (fun h => ?_) (fun h => ?_) | refine W_ifB (fun h => ?_) (fun h => ?_) | refine Ev_skip ?_ | refine Ev_exit ?_ | refine Ev_ret ?_) | (show EvD _ _ [] _ _ _; refine W_nil ?_) | (show EvD _ _ (_ :: _) _ _ _; first | refine W_run tok ?_ ?_ (by simp (maxSteps := 1000000) (disch := omega) only [go_sem, wrap_i64_id]; with_reducible exact rfl) | refine W_callee ?_) | (show EvC _ _ _ _ _ _ _ _ _; first | refine W_con ?_ ?_ | refine W_weak ?_) | (show RetQ _ _ (RP _ _) _ _; refine R_ret ?_ ?_) | (show FrzTo _ _ _ _; first | refine F_row ?_ | refine F_weak ?_) | refine Q_thenN ?_ | refine Q_thenE ?_ | refine Q_thenR ?_ | refine Q_blkN ?_ | refine Q_blkE ?_ | (show blockQ _ _ _ _; refine Q_blkX ?_) | refine Q_blkR ?_ | refine Q_rndE ?_ | refine Q_rndR ?_)
  all_goals (try exact sd)
  all_goals (try refine F_done ?_)
  refine Ev_lp (C.length) (fun i => [(3, .str (hd ++ layCs (C.take i))), (5, i64 i)]) (fun i => ⟨σ.rows, σ.boxes ++ [some ⟨42, [.sl (pairsD P), .sl (strsD K), .sl (kidsD C)]⟩], σ.maps⟩) [47, 48, 49, 50, 51, 52, 53, 54, 55, 56, 57, 58, 59, 60, 61, 62] ?_ (by first | rfl | (simp only [List.take_zero, List.append_nil]; done)) (fun i hi => ?_)
  ·exact le1
  by_cases hi' : i < C.length
  ·obtain ⟨c, hc, hg⟩ := cget hi'
   have hcc := ho.c i hi'
   rw [hc] at hcc
   have ht := layCs_take hi' hc
   have hl := layCs_len (C := C) i (by omega)
   have nc : IntKind.u64.wrap c = c := wrap_u64_id (by omega) (by omega)
   repeat' (first | (show Ev _ (.region _ _ true) _ _; first | refine D_start [50, 51, 61, 62, 82, 85] mix ?_ | refine D_startA [50, 51, 61, 62, 82, 85, 99998] mix ?_ | refine D_startA [50, 51, 61, 62, 82, 85] mix ?_) | (show DrD _ _ _ [] _ _ _ _; refine D_nil ?_; try dsimp only) | (show DrD _ (EB _ _) _ (_ :: _) _ _ _ _; first | refine D_runL tok ?_ ?_ (h := by intro R; simp (maxSteps := 1000000) (disch := omega) only [go_sem, wrap_i64_id, hg, nc]; with_reducible exact rfl)) | (show DrD _ EA _ (_ :: _) _ _ _ _; first | refine D_runLA tok ?_ ?_ (h := by intro R; simp (maxSteps := 1000000) (disch := omega) only [go_sem, wrap_i64_id, hg, nc]; with_reducible exact rfl)) | (show DrD _ _ _ (_ :: _) _ _ _ _; first | refine D_con ?_ ?_ | refine D_store tok ?_ ?_ | refine D_eff tok ?_ ?_ | refine D_hold tok ?_ ?_ | refine D_hold tok ?_ ?_ (h := by simp (maxSteps := 1000000) (disch := omega) only [go_sem, wrap_i64_id, hg, nc]; with_reducible exact rfl) | refine D_store tok ?_ ?_ (h := by simp (maxSteps := 1000000) (disch := omega) only [go_sem, wrap_i64_id, hg, nc]; with_reducible exact rfl)) | (show Ev _ _ _ _; first | refine Ev_seq ?_ | refine W_reg ?_ | refine Ev_block ?_ | refine W_ifT ?_ | refine W_ifF ?_ | refine W_ifY ?_ | refine W_ifN ?_ | refine W_ifP (fun h => ?_) (fun h => ?_) | refine W_ifB (fun h => ?_) (fun h => ?_) | refine Ev_skip ?_ | refine Ev_exit ?_ | refine Ev_ret ?_) | (show EvD _ _ [] _ _ _; refine W_nil ?_) | (show EvD _ _ (_ :: _) _ _ _; first | refine W_run tok ?_ ?_ (by simp (maxSteps := 1000000) (disch := omega) only [go_sem, wrap_i64_id, hg, nc]; with_reducible exact rfl) | refine W_callee ?_) | (show EvC _ _ _ _ _ _ _ _ _; first | refine W_con ?_ ?_ | refine W_weak ?_) | (show RetQ _ _ (RP _ _) _ _; refine R_ret ?_ ?_) | (show FrzTo _ _ _ _; first | refine F_row ?_ | refine F_weak ?_) | refine Q_thenN ?_ | refine Q_thenE ?_ | refine Q_thenR ?_ | refine Q_blkN ?_ | refine Q_blkE ?_ | (show blockQ _ _ _ _; refine Q_blkX ?_) | refine Q_blkR ?_ | refine Q_rndE ?_ | refine Q_rndR ?_)
   all_goals (try exact sd)
   all_goals (try refine F_done ?_)
   refine Q_rndN ?_ (by omega) ?_
   rotate_left
   ·rfl
   repeat (first | exact LeL.nil | refine LeL.cons2 ?_ (Le.undef _) | refine LeL.cons2 ?_ (Le.refl _) | refine LeL.cons2 ?_ (Le.sl _) | refine LeL.cons2 ?_ (Le.eq (by first | rfl | exact congrArg _ (by omega))) | refine LeL.cons2 ?_ (Le.eq ?_))
   all_goals first | (rw [ht]; done) | (rw [ht, List.append_assoc]; done) | skip
  ·obtain rfl : i = C.length := by omega
   have hl := layCs_len (C := C) C.length (Nat.le_refl _)
   rw [List.take_length] at hl ⊢
   repeat' (first | (show Ev _ (.region _ _ true) _ _; first | refine D_start [50, 51, 61, 62, 82, 85] mix ?_ | refine D_startA [50, 51, 61, 62, 82, 85, 99998] mix ?_ | refine D_startA [50, 51, 61, 62, 82, 85] mix ?_) | (show DrD _ _ _ [] _ _ _ _; refine D_nil ?_; try dsimp only) | (show DrD _ (EB _ _) _ (_ :: _) _ _ _ _; first | refine D_runL tok ?_ ?_ (h := by intro R; simp (maxSteps := 1000000) (disch := omega) only [go_sem, wrap_i64_id]; with_reducible exact rfl)) | (show DrD _ EA _ (_ :: _) _ _ _ _; first | refine D_runLA tok ?_ ?_ (h := by intro R; simp (maxSteps := 1000000) (disch := omega) only [go_sem, wrap_i64_id]; with_reducible exact rfl)) | (show DrD _ _ _ (_ :: _) _ _ _ _; first | refine D_con ?_ ?_ | refine D_store tok ?_ ?_ | refine D_eff tok ?_ ?_ | refine D_hold tok ?_ ?_ | refine D_hold tok ?_ ?_ (h := by simp (maxSteps := 1000000) (disch := omega) only [go_sem, wrap_i64_id]; with_reducible exact rfl) | refine D_store tok ?_ ?_ (h := by simp (maxSteps := 1000000) (disch := omega) only [go_sem, wrap_i64_id]; with_reducible exact rfl)) | (show Ev _ _ _ _; first | refine Ev_seq ?_ | refine W_reg ?_ | refine Ev_block ?_ | refine W_ifT ?_ | refine W_ifF ?_ | refine W_ifY ?_ | refine W_ifN ?_ | refine W_ifP (fun h => ?_) (fun h => ?_) | refine W_ifB (fun h => ?_) (fun h => ?_) | refine Ev_skip ?_ | refine Ev_exit ?_ | refine Ev_ret ?_) | (show EvD _ _ [] _ _ _; refine W_nil ?_) | (show EvD _ _ (_ :: _) _ _ _; first | refine W_run tok ?_ ?_ (by simp (maxSteps := 1000000) (disch := omega) only [go_sem, wrap_i64_id]; with_reducible exact rfl) | refine W_callee ?_) | (show EvC _ _ _ _ _ _ _ _ _; first | refine W_con ?_ ?_ | refine W_weak ?_) | (show RetQ _ _ (RP _ _) _ _; refine R_ret ?_ ?_) | (show FrzTo _ _ _ _; first | refine F_row ?_ | refine F_weak ?_) | refine Q_thenN ?_ | refine Q_thenE ?_ | refine Q_thenR ?_ | refine Q_blkN ?_ | refine Q_blkE ?_ | (show blockQ _ _ _ _; refine Q_blkX ?_) | refine Q_blkR ?_ | refine Q_rndE ?_ | refine Q_rndR ?_)
   all_goals (try exact sd)
   all_goals (try refine F_done ?_)
   refine Ev_lp (K.length) (fun i => [(3, .str (hd ++ layCs C ++ layKs (K.take i))), (6, i64 i)]) (fun i => ⟨σ.rows, σ.boxes ++ [some ⟨42, [.sl (pairsD P), .sl (strsD K), .sl (kidsD C)]⟩], σ.maps⟩) [63, 64, 65, 66, 67, 68, 69, 70, 71, 72, 73, 74, 75, 76, 77] ?_ (by first | rfl | (simp only [List.take_zero, List.append_nil]; done)) (fun i hi => ?_)
   ·exact le1
   by_cases hi' : i < K.length
   ·obtain ⟨k, hk, hg⟩ := kget hi'
    have hkk := ho.k i hi'
    rw [hk] at hkk
    have ht := layKs_take hi' hk
    have hl2 := hK i (by omega)
    repeat' (first | (show Ev _ (.region _ _ true) _ _; first | refine D_start [50, 51, 61, 62, 82, 85] mix ?_ | refine D_startA [50, 51, 61, 62, 82, 85, 99998] mix ?_ | refine D_startA [50, 51, 61, 62, 82, 85] mix ?_) | (show DrD _ _ _ [] _ _ _ _; refine D_nil ?_; try dsimp only) | (show DrD _ (EB _ _) _ (_ :: _) _ _ _ _; first | refine D_runL tok ?_ ?_ (h := by intro R; simp (maxSteps := 1000000) (disch := omega) only [go_sem, wrap_i64_id, hg]; with_reducible exact rfl)) | (show DrD _ EA _ (_ :: _) _ _ _ _; first | refine D_runLA tok ?_ ?_ (h := by intro R; simp (maxSteps := 1000000) (disch := omega) only [go_sem, wrap_i64_id, hg]; with_reducible exact rfl)) | (show DrD _ _ _ (_ :: _) _ _ _ _; first | refine D_con ?_ ?_ | refine D_store tok ?_ ?_ | refine D_eff tok ?_ ?_ | refine D_hold tok ?_ ?_ | refine D_hold tok ?_ ?_ (h := by simp (maxSteps := 1000000) (disch := omega) only [go_sem, wrap_i64_id, hg]; with_reducible exact rfl) | refine D_store tok ?_ ?_ (h := by simp (maxSteps := 1000000) (disch := omega) only [go_sem, wrap_i64_id, hg]; with_reducible exact rfl)) | (show Ev _ _ _ _; first | refine Ev_seq ?_ | refine W_reg ?_ | refine Ev_block ?_ | refine W_ifT ?_ | refine W_ifF ?_ | refine W_ifY ?_ | refine W_ifN ?_ | refine W_ifP (fun h => ?_) (fun h => ?_) | refine W_ifB (fun h => ?_) (fun h => ?_) | refine Ev_skip ?_ | refine Ev_exit ?_ | refine Ev_ret ?_) | (show EvD _ _ [] _ _ _; refine W_nil ?_) | (show EvD _ _ (_ :: _) _ _ _; first | refine W_run tok ?_ ?_ (by simp (maxSteps := 1000000) (disch := omega) only [go_sem, wrap_i64_id, hg]; with_reducible exact rfl) | refine W_callee ?_) | (show EvC _ _ _ _ _ _ _ _ _; first | refine W_con ?_ ?_ | refine W_weak ?_) | (show RetQ _ _ (RP _ _) _ _; refine R_ret ?_ ?_) | (show FrzTo _ _ _ _; first | refine F_row ?_ | refine F_weak ?_) | refine Q_thenN ?_ | refine Q_thenE ?_ | refine Q_thenR ?_ | refine Q_blkN ?_ | refine Q_blkE ?_ | (show blockQ _ _ _ _; refine Q_blkX ?_) | refine Q_blkR ?_ | refine Q_rndE ?_ | refine Q_rndR ?_)
    all_goals (try exact sd)
    all_goals (try refine F_done ?_)
    refine Q_rndN ?_ (by omega) ?_
    rotate_left
    ·rfl
    repeat (first | exact LeL.nil | refine LeL.cons2 ?_ (Le.undef _) | refine LeL.cons2 ?_ (Le.refl _) | refine LeL.cons2 ?_ (Le.sl _) | refine LeL.cons2 ?_ (Le.eq (by first | rfl | exact congrArg _ (by omega))) | refine LeL.cons2 ?_ (Le.eq ?_))
    all_goals first | (rw [ht]; done) | (rw [ht, List.append_assoc]; done) | (rw [ht]; simp [layT]; done) | skip
   ·obtain rfl : i = K.length := by omega
    have hl2 := hK K.length (Nat.le_refl _)
    have hrw : hd ++ layCs C ++ layKs (K.take K.length) = rawN P K C := by
     have p0 : P = [] := List.length_eq_zero_iff.1 (by omega)
     unfold rawN
     rw [← hhd, p0, List.take_length]
     simp [layPs]
    have hrw' : hd ++ (layCs C ++ layKs (K.take K.length)) = rawN P K C := by rw [← List.append_assoc]; exact hrw
    repeat' (first | (show Ev _ (.region _ _ true) _ _; first | refine D_start [50, 51, 61, 62, 82, 85] mix ?_ | refine D_startA [50, 51, 61, 62, 82, 85, 99998] mix ?_ | refine D_startA [50, 51, 61, 62, 82, 85] mix ?_) | (show DrD _ _ _ [] _ _ _ _; refine D_nil ?_; try dsimp only) | (show DrD _ (EB _ _) _ (_ :: _) _ _ _ _; first | refine D_runL tok ?_ ?_ (h := by intro R; simp (maxSteps := 1000000) (disch := omega) only [go_sem, wrap_i64_id]; with_reducible exact rfl)) | (show DrD _ EA _ (_ :: _) _ _ _ _; first | refine D_runLA tok ?_ ?_ (h := by intro R; simp (maxSteps := 1000000) (disch := omega) only [go_sem, wrap_i64_id]; with_reducible exact rfl)) | (show DrD _ _ _ (_ :: _) _ _ _ _; first | refine D_con ?_ ?_ | refine D_store tok ?_ ?_ | refine D_eff tok ?_ ?_ | refine D_hold tok ?_ ?_ | refine D_hold tok ?_ ?_ (h := by simp (maxSteps := 1000000) (disch := omega) only [go_sem, wrap_i64_id]; with_reducible exact rfl) | refine D_store tok ?_ ?_ (h := by simp (maxSteps := 1000000) (disch := omega) only [go_sem, wrap_i64_id]; with_reducible exact rfl)) | (show Ev _ _ _ _; first | refine Ev_seq ?_ | refine W_reg ?_ | refine Ev_block ?_ | refine W_ifT ?_ | refine W_ifF ?_ | refine W_ifY ?_ | refine W_ifN ?_ | refine W_ifP (fun h => ?_) (fun h => ?_) | refine W_ifB (fun h => ?_) (fun h => ?_) | refine Ev_skip ?_ | refine Ev_exit ?_ | refine Ev_ret ?_) | (show EvD _ _ [] _ _ _; refine W_nil ?_) | (show EvD _ _ (_ :: _) _ _ _; first | refine W_run tok ?_ ?_ (by simp (maxSteps := 1000000) (disch := omega) only [go_sem, wrap_i64_id]; with_reducible exact rfl) | refine W_callee ?_) | (show EvC _ _ _ _ _ _ _ _ _; first | refine W_con ?_ ?_ | refine W_weak ?_) | (show RetQ _ _ (RP _ _) _ _; refine R_ret ?_ ?_) | (show FrzTo _ _ _ _; first | refine F_row ?_ | refine F_weak ?_) | refine Q_thenN ?_ | refine Q_thenE ?_ | refine Q_thenR ?_ | refine Q_blkN ?_ | refine Q_blkE ?_ | (show blockQ _ _ _ _; refine Q_blkX ?_) | refine Q_blkR ?_ | refine Q_rndE ?_ | refine Q_rndR ?_)
    all_goals (try exact sd)
    all_goals (try refine F_done ?_)
    first | rw [hrw] | rw [hrw']
    refine Ev_lp (508 - (rawN P K C).length) (fun i => [(3, .str (rawN P K C ++ List.replicate i 0))]) (fun i => ⟨σ.rows, σ.boxes ++ [some ⟨42, [.sl (pairsD P), .sl (strsD K), .sl (kidsD C)]⟩], σ.maps⟩) [78, 79, 80, 81, 82] ?_ (by first | rfl | (simp only [List.take_zero, List.append_nil]; done)) (fun i hi => ?_)
    ·exact le1
    have hrl : (rawN P K C ++ List.replicate i (0 : UInt8)).length = (rawN P K C).length + i := by rw [List.length_append, List.length_replicate]
    by_cases hi' : i < 508 - (rawN P K C).length
    ·repeat' (first | (show Ev _ (.region _ _ true) _ _; first | refine D_start [50, 51, 61, 62, 82, 85] mix ?_ | refine D_startA [50, 51, 61, 62, 82, 85, 99998] mix ?_ | refine D_startA [50, 51, 61, 62, 82, 85] mix ?_) | (show DrD _ _ _ [] _ _ _ _; refine D_nil ?_; try dsimp only) | (show DrD _ (EB _ _) _ (_ :: _) _ _ _ _; first | refine D_runL tok ?_ ?_ (h := by intro R; simp (maxSteps := 1000000) (disch := omega) only [go_sem, wrap_i64_id, hrl]; with_reducible exact rfl)) | (show DrD _ EA _ (_ :: _) _ _ _ _; first | refine D_runLA tok ?_ ?_ (h := by intro R; simp (maxSteps := 1000000) (disch := omega) only [go_sem, wrap_i64_id, hrl]; with_reducible exact rfl)) | (show DrD _ _ _ (_ :: _) _ _ _ _; first | refine D_con ?_ ?_ | refine D_store tok ?_ ?_ | refine D_eff tok ?_ ?_ | refine D_hold tok ?_ ?_ | refine D_hold tok ?_ ?_ (h := by simp (maxSteps := 1000000) (disch := omega) only [go_sem, wrap_i64_id, hrl]; with_reducible exact rfl) | refine D_store tok ?_ ?_ (h := by simp (maxSteps := 1000000) (disch := omega) only [go_sem, wrap_i64_id, hrl]; with_reducible exact rfl)) | (show Ev _ _ _ _; first | refine Ev_seq ?_ | refine W_reg ?_ | refine Ev_block ?_ | refine W_ifT ?_ | refine W_ifF ?_ | refine W_ifY ?_ | refine W_ifN ?_ | refine W_ifP (fun h => ?_) (fun h => ?_) | refine W_ifB (fun h => ?_) (fun h => ?_) | refine Ev_skip ?_ | refine Ev_exit ?_ | refine Ev_ret ?_) | (show EvD _ _ [] _ _ _; refine W_nil ?_) | (show EvD _ _ (_ :: _) _ _ _; first | refine W_run tok ?_ ?_ (by simp (maxSteps := 1000000) (disch := omega) only [go_sem, wrap_i64_id, hrl]; with_reducible exact rfl) | refine W_callee ?_) | (show EvC _ _ _ _ _ _ _ _ _; first | refine W_con ?_ ?_ | refine W_weak ?_) | (show RetQ _ _ (RP _ _) _ _; refine R_ret ?_ ?_) | (show FrzTo _ _ _ _; first | refine F_row ?_ | refine F_weak ?_) | refine Q_thenN ?_ | refine Q_thenE ?_ | refine Q_thenR ?_ | refine Q_blkN ?_ | refine Q_blkE ?_ | (show blockQ _ _ _ _; refine Q_blkX ?_) | refine Q_blkR ?_ | refine Q_rndE ?_ | refine Q_rndR ?_)
     all_goals (try exact sd)
     all_goals (try refine F_done ?_)
     refine Q_rndN ?_ (by omega) ?_
     rotate_left
     ·rfl
     repeat (first | exact LeL.nil | refine LeL.cons2 ?_ (Le.undef _) | refine LeL.cons2 ?_ (Le.refl _) | refine LeL.cons2 ?_ (Le.sl _) | refine LeL.cons2 ?_ (Le.eq (by first | rfl | exact congrArg _ (by omega))) | refine LeL.cons2 ?_ (Le.eq ?_))
     rw [List.replicate_succ']
    ·obtain rfl : i = 508 - (rawN P K C).length := by omega
     have hpl := padN_len ho
     repeat' (first | (show Ev _ (.region _ _ true) _ _; first | refine D_start [50, 51, 61, 62, 82, 85] mix ?_ | refine D_startA [50, 51, 61, 62, 82, 85, 99998] mix ?_ | refine D_startA [50, 51, 61, 62, 82, 85] mix ?_) | (show DrD _ _ _ [] _ _ _ _; refine D_nil ?_; try dsimp only) | (show DrD _ (EB _ _) _ (_ :: _) _ _ _ _; first | refine D_runL tok ?_ ?_ (h := by intro R; simp (maxSteps := 1000000) (disch := omega) only [go_sem, wrap_i64_id, hrl]; with_reducible exact rfl)) | (show DrD _ EA _ (_ :: _) _ _ _ _; first | refine D_runLA tok ?_ ?_ (h := by intro R; simp (maxSteps := 1000000) (disch := omega) only [go_sem, wrap_i64_id, hrl]; with_reducible exact rfl)) | (show DrD _ _ _ (_ :: _) _ _ _ _; first | refine D_con ?_ ?_ | refine D_store tok ?_ ?_ | refine D_eff tok ?_ ?_ | refine D_hold tok ?_ ?_ | refine D_hold tok ?_ ?_ (h := by simp (maxSteps := 1000000) (disch := omega) only [go_sem, wrap_i64_id, hrl]; with_reducible exact rfl) | refine D_store tok ?_ ?_ (h := by simp (maxSteps := 1000000) (disch := omega) only [go_sem, wrap_i64_id, hrl]; with_reducible exact rfl)) | (show Ev _ _ _ _; first | refine Ev_seq ?_ | refine W_reg ?_ | refine Ev_block ?_ | refine W_ifT ?_ | refine W_ifF ?_ | refine W_ifY ?_ | refine W_ifN ?_ | refine W_ifP (fun h => ?_) (fun h => ?_) | refine W_ifB (fun h => ?_) (fun h => ?_) | refine Ev_skip ?_ | refine Ev_exit ?_ | refine Ev_ret ?_) | (show EvD _ _ [] _ _ _; refine W_nil ?_) | (show EvD _ _ (_ :: _) _ _ _; first | refine W_run tok ?_ ?_ (by simp (maxSteps := 1000000) (disch := omega) only [go_sem, wrap_i64_id, hrl]; with_reducible exact rfl) | refine W_callee ?_) | (show EvC _ _ _ _ _ _ _ _ _; first | refine W_con ?_ ?_ | refine W_weak ?_) | (show RetQ _ _ (RP _ _) _ _; refine R_ret ?_ ?_) | (show FrzTo _ _ _ _; first | refine F_row ?_ | refine F_weak ?_) | refine Q_thenN ?_ | refine Q_thenE ?_ | refine Q_thenR ?_ | refine Q_blkN ?_ | refine Q_blkE ?_ | (show blockQ _ _ _ _; refine Q_blkX ?_) | refine Q_blkR ?_ | refine Q_rndE ?_ | refine Q_rndR ?_)
     all_goals (try exact sd)
     all_goals (try refine F_done ?_)
     all_goals first | rfl | skip
instance i_bursarref08_Encode (P : List PairB) (K : List (List UInt8)) (C : List Int) : Con Try.prog 32 [nodeD P K C] (mayN P K C = true) (.str (pageN P K C)) := ⟨c_bursarref08_Encode P  K  C ⟩
end Go.Val.Ytgjmpefhjdgkoaa
