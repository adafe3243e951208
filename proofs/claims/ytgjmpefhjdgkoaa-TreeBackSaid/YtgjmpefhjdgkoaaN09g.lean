/- Chapter 09: the reference builds a tree, walked. -/
import Derived.Test.YtgjmpefhjdgkoaaN09f
namespace Go.Val.Ytgjmpefhjdgkoaa
open Go Go.Val Go.Proofs Go.Proofs.Ytgjmpefhjdgkoaa
attribute [local irreducible] Ev EvD EvC thenQ blockQ RoundG RetQ
set_option maxRecDepth 100000
set_option maxHeartbeats 4000000
set_option linter.unusedSimpArgs false
set_option linter.unusedVariables false
def keysL (lv : List PartB) : List (List UInt8) := lv.map (·.2)
theorem keysL_len (lv : List PartB) : (keysL lv).length = lv.length := by simp [keysL]
def leastL (P : List PairB) : Nat → List (List UInt8)
 | 0 => keysL (bst P 0).2
 | r + 1 => leastL P r ++ keysL (bst P (r + 1)).2
theorem leastL_len (P : List PairB) : ∀ r, (leastL P r).length = sumL (nL P.length) r
 | 0 => by rw [leastL, keysL_len, bst_len]; rfl
 | r + 1 => by rw [leastL, List.length_append, keysL_len, bst_len, leastL_len P r]; rfl
theorem leastL_get (P : List PairB) (r i : Nat) : (leastL P r)[sumP (nL P.length) r + i]? = ((bst P r).2[i]?).map (·.2) := by
 rcases r with _ | r
 ·simp [leastL, keysL, sumP]
 ·rw [leastL, sumP_sumL, ← leastL_len, List.getElem?_append_right (by omega), Nat.add_sub_cancel_left, keysL, List.getElem?_map]
theorem bst_fst (P : List PairB) (r i : Nat) (h : i < lvN (nL P.length) r) : ((bst P r).2[i]?).map (·.1) = some (sumP (nL P.length) r + i) := by
 rcases r with _ | r
 ·have h' : i < nL P.length := h
  simp [bst, level0, sumP, List.getElem?_map, List.getElem?_range h']
 ·have h' : i < pcM (bst P r).2.length 8 := by rw [bst_len]; exact h
  rw [sumP_sumL, ← bst_all]
  simp [bst, partsG, List.getElem?_map, List.getElem?_range h']
theorem grp_get (lv : List PartB) (g t : Nat) (h : t < (grp lv g).length) : (grp lv g).getD t (0, []) = lv.getD (stG lv.length g + t) (0, []) := by
 have h2 : t < stG lv.length (g + 1) - stG lv.length g := by
  simp only [grp, List.length_take] at h; omega
 simp [grp, List.getD_eq_getElem?_getD, List.getElem?_take, h2, List.getElem?_drop]
theorem keysL_snoc (n : Nat) (lv : List PartB) (i : Nat) : strsD (keysL (partsG n lv i)) ++ [.str ((grp lv i).getD 0 (0, [])).2] = strsD (keysL (partsG n lv (i + 1))) := by simp [strsD, keysL, partsG, List.range_succ]
theorem keys0_snoc (P : List PairB) (i : Nat) : strsD (keysL (level0 P i)) ++ [.str (keyAt P (5 * i))] = strsD (keysL (level0 P (i + 1))) := by simp [strsD, keysL, level0, List.range_succ]
theorem pcl_get (P : List PairB) (i t : Nat) (h : t < (pcl P i).length) : ∃ k v, P.getD (5 * i + t) ([], []) = (k, v) ∧ (pairsD P).getD (5 * i + t) .undef = .agg [.str k, .str v] ∧ pairsD ((pcl P i).take t) ++ [.agg [.str k, .str v]] = pairsD ((pcl P i).take (t + 1)) := by
 have h2 : 5 * i + t < P.length ∧ t < 5 := by simp only [pcl, List.length_take, List.length_drop] at h; omega
 obtain ⟨k, v, a, b⟩ := pget h2.1
 refine ⟨k, v, a, b, ?_⟩
 have e : (pcl P i)[t]? = some (k, v) := by
  rw [List.getD_eq_getElem?_getD, List.getElem?_eq_getElem h2.1] at a
  rw [pcl, List.getElem?_take, if_pos h2.2, List.getElem?_drop, List.getElem?_eq_getElem h2.1]
  exact congrArg some a
 rw [List.take_add_one, e]
 simp [pairsD, pairD]
theorem sumP_L (c r : Nat) : sumL c r = sumP c r + lvN c r := by rw [← sumP_sumL]; rfl
def bldY (P : List PairB) : List DV × Nat := if mayT P = false then ([], 1) else if 200 < pagesT P.length then ([], 9) else (bstX P (rdC (nL P.length)), 0)
theorem bldY_le (P : List PairB) : Le (.tup [.sl (bldY P).1, .int .i64 (bldY P).2]) (.tup [.sl (nodesD (bldR P).1), .int .i64 (bldR P).2]) := by
 unfold bldY bldR
 by_cases h1 : mayT P = false
 ·rw [if_pos h1, if_pos h1]; exact Le.refl _
 ·rw [if_neg h1, if_neg h1]
  by_cases h2 : 200 < pagesT P.length
  ·rw [if_pos h2, if_pos h2]; exact Le.refl _
  ·rw [if_neg h2, if_neg h2]
   exact Le.tup (.cons (bst_le P _) (.refl _))
theorem bldY_named (a b c : Nat) (P : List PairB) : nameds a b c (bldY P).1 = true := by
 unfold bldY
 split
 ·rfl
 ·split
  ·rfl
  ·exact bstX_named _ _ _ _ _
attribute [go_sem] bldY_named
theorem c_bursarref09_Build (P : List PairB) (hC : P.length ≤ 3000) : Pure Try.prog n_bursarref09_Build [.sl (pairsD P)] (.tup [.sl (bldY P).1, .int .i64 (bldY P).2]) := by
 refine Pure.go tok (rs := [.tmp 2, .tmp 3]) [.sl (pairsD P), .undef, .undef, .undef, .undef, .undef, .undef, .undef, .undef, .undef, .undef, .undef, .undef, .undef, .undef, .undef, .undef, .undef, .undef, .undef, .undef, .undef, .undef, .undef, .undef, .undef, .undef, .undef, .undef, .undef, .undef, .undef, .undef, .undef, .undef, .undef, .undef, .undef, .undef, .undef, .undef, .undef, .undef, .undef, .undef, .undef, .undef, .undef, .undef, .undef, .undef, .undef, .undef, .undef, .undef, .undef, .undef, .undef, .undef, .undef, .undef, .undef, .undef, .undef, .undef, .undef, .undef, .undef, .undef, .undef, .undef, .undef, .undef, .undef, .undef, .undef, .undef, .undef, .undef, .undef, .undef, .undef, .undef, .undef, .undef, .undef, .undef, .undef, .undef, .undef, .undef, .undef, .undef, .undef, .undef, .undef, .undef, .undef, .undef, .undef, .undef, .undef, .undef, .undef, .undef, .undef, .undef, .undef, .undef, .undef, .undef, .undef, .undef, .undef, .undef, .undef, .undef, .undef, .undef, .undef, .undef, .undef, .undef, .undef, .undef, .undef, .undef, .undef, .undef, .undef, .undef] Try.func14 (fun σ => ?_)
 have hl := pairsD_len P
 have hn1 := nL_pos P.length
 have hn2 := nL_le hC
 have hpg : pagesT P.length = sumL (nL P.length) (rdC (nL P.length)) := rfl
 have hpb : pagesT P.length ≤ 3000 := by
  have := sumL_le hn2 (rdC (nL P.length)); have := rdC_le (nL P.length); rw [hpg]; omega
 have iP := i_bursarref09_Pages (P.length : Int)
 rw [Int.toNat_natCast] at iP
 obtain ⟨pg, hpgd⟩ : ∃ pg, pg = pagesT P.length := ⟨_, rfl⟩
 rw [← hpgd] at iP hpb
 unfold bldY
 rw [← hpgd]
 by_cases hm : mayT P = false
 ·rw [if_pos hm]
  repeat' (first | (show Ev _ _ _ _; first | refine Ev_seq ?_ | refine W_reg ?_ | refine W_ifT ?_ | refine Ev_ret ?_) | (show EvD _ _ [] _ _ _; refine W_nil ?_) | (show EvD _ _ (_ :: _) _ _ _; first | refine W_run tok ?_ ?_ (by simp (maxSteps := 1000000) (disch := omega) only [go_sem, wrap_i64_id, hm]; with_reducible exact rfl) | refine W_callee ?_) | (show EvC _ _ _ _ _ _ _ _ _; refine W_con ?_ ?_) | (show RetQ _ _ (RP _ _) _ _; refine R_ret ?_ ?_) | (show FrzTo _ _ _ _; refine F_weak ?_) | refine Q_thenN ?_ | refine Q_thenR ?_ | fail)
  all_goals (try exact sd)
  all_goals (try refine F_done ?_)
  all_goals rfl
 rw [if_neg hm]
 rw [Bool.not_eq_false] at hm
 by_cases h9 : 200 < pg
 ·rw [if_pos h9]
  repeat' (first | (show Ev _ _ _ _; first | refine Ev_seq ?_ | refine W_reg ?_ | refine W_ifF ?_ | refine W_ifY ?_ | refine Ev_skip ?_ | refine Ev_ret ?_) | (show EvD _ _ [] _ _ _; refine W_nil ?_) | (show EvD _ _ (_ :: _) _ _ _; first | refine W_run tok ?_ ?_ (by simp (maxSteps := 1000000) (disch := omega) only [go_sem, wrap_i64_id, hm]; with_reducible exact rfl) | refine W_callee ?_) | (show EvC _ _ _ _ _ _ _ _ _; refine W_con ?_ ?_) | (show RetQ _ _ (RP _ _) _ _; refine R_ret ?_ ?_) | (show FrzTo _ _ _ _; refine F_weak ?_) | refine Q_thenN ?_ | refine Q_thenR ?_ | fail)
  all_goals (try exact sd)
  all_goals (try refine F_done ?_)
  all_goals rfl
 rw [if_neg h9]
 have hm5 : ∀ i, 0 < i → (i < nL P.length ↔ 5 * i < P.length) := fun i hi => by unfold nL; omega
 have hm6 : ∀ i, i < nL P.length → 5 * i ≤ P.length := fun i hi => by unfold nL at hi; omega
 obtain ⟨m, hmm⟩ : ∃ m, m = nL P.length := ⟨_, rfl⟩
 have hmn : nL P.length = m := hmm.symm
 rw [hmn] at hn1 hn2 hm5 hm6 ⊢
 repeat' (first | (show Ev _ _ _ _; first | refine Ev_seq ?_ | refine W_reg ?_ | refine Ev_block ?_ | refine W_ifF ?_ | refine W_ifN ?_ | refine Ev_skip ?_) | (show EvD _ _ [] _ _ _; refine W_nil ?_) | (show EvD _ _ (_ :: _) _ _ _; first | refine W_run tok ?_ ?_ (by simp (maxSteps := 1000000) (disch := omega) only [go_sem, wrap_i64_id, hm]; with_reducible exact rfl) | refine W_callee ?_) | (show EvC _ _ _ _ _ _ _ _ _; refine W_con ?_ ?_) | refine Q_thenN ?_ | fail)
 all_goals (try exact sd)
 all_goals (try refine F_done ?_)
 refine Ev_seed 4 42 3 rfl (by decide) (by simp only [List.set_cons_succ, List.set_cons_zero]; exact rfl) ?_
 refine Ev_seed 5 9 1 rfl (by decide) (by simp only [List.set_cons_succ, List.set_cons_zero]; exact rfl) ?_
 refine Ev_lp (m) (fun i => [(4, .row σ.rows.length i), (5, .row (σ.rows.length + 1) i), (6, i64 (5 * i : Nat))]) (fun i => ⟨σ.rows ++ [some ⟨leavesX P i, 42, 3⟩, some ⟨strsD (keysL (level0 P i)), 9, 1⟩], σ.boxes, σ.maps⟩) [7, 8, 9, 23, 24, 25, 26, 27, 28, 29, 30, 31, 32, 33, 34, 35, 36, 37, 38, 39, 40, 41, 42, 43, 44, 45, 46, 47, 48, 49, 50, 51, 52, 53, 54, 55, 56, 57, 58, 59, 60, 61, 62, 63, 64, 65, 66, 67, 68] ?_ (by simp [leavesX, level0, strsD, keysL]) (fun i hi => ?_)
 ·exact le1
 have hmi := hm5 i
 by_cases hi' : i < m
 ·have h6 := hm6 i hi'
  have hx1 := leavesX_len P i
  have hx2 := (keysL_len (level0 P i)).trans (level0_len P i)
  have hx3 := (strsD_len (keysL (level0 P i))).trans hx2
  obtain ⟨q1, q2⟩ := pcl_len P i
  have q3 : (pcl P i).length = min 5 (P.length - 5 * i) := by simp [pcl, List.length_take, List.length_drop]
  have hs1 := keys0_snoc P i
  have hs2 := leavesX_snoc P i
  unfold leafX at hs2
  obtain ⟨q, hq⟩ : ∃ q, q = (pcl P i).length := ⟨_, rfl⟩
  rw [← hq] at q1 q2 q3
  have fC : (decide (((5 * i : Nat) : Int) = 0) = true) ∨ (decide (((5 * i : Nat) : Int) = 0) = false ∧ decide (((5 * i : Nat) : Int) < (P.length : Int)) = true) := by
   by_cases h : i = 0
   ·exact .inl (decide_eq_true (by omega))
   ·exact .inr ⟨decide_eq_false (by omega), decide_eq_true (by have := (hmi (by omega)).1 hi'; omega)⟩
  rcases fC with f1 | ⟨f1, f2⟩
  ·repeat' (first | (show Ev _ _ _ _; first | refine Ev_seq ?_ | refine W_reg ?_ | refine Ev_block ?_ | refine W_ifT ?_ | refine Ev_skip ?_) | (show EvD _ _ [] _ _ _; refine W_nil ?_) | (show EvD _ _ (_ :: _) _ _ _; first | refine W_run tok ?_ ?_ (by simp (maxSteps := 1000000) (disch := omega) only [go_sem, wrap_i64_id, f1]; with_reducible exact rfl)) | refine Q_thenN ?_ | fail)
   all_goals (try exact sd)
   all_goals (try refine F_done ?_)
   refine Ev_seedB σ.boxes.length 0 39 2 (by (try simp only [app_get, app_get0, List.getElem?_cons_succ, List.getElem?_cons_zero]) <;> exact rfl) (by (try simp only [List.getElem?_cons_succ, List.getElem?_cons_zero]) <;> exact rfl) (by decide) (by (try simp only [app_len, List.length_cons, List.length_nil, Nat.zero_add, Nat.reduceAdd, app_set, app_set0, List.set_cons_succ, List.set_cons_zero]) <;> exact rfl) (by (try simp only [List.append_assoc, List.cons_append, List.nil_append]) <;> exact rfl) ?_
   refine Ev_lp (q) (fun t => [(8, .str (if t = 0 then [] else keyAt P (5 * i))), (9, i64 (5 * i + t : Nat))]) (fun t => ⟨σ.rows ++ [some ⟨leavesX P i, 42, 3⟩, some ⟨strsD (keysL (level0 P i)), 9, 1⟩, some ⟨pairsD ((pcl P i).take t), 39, 2⟩], σ.boxes ++ [some ⟨42, [.row (σ.rows.length + 2) t, .slt [], .slt []]⟩], σ.maps⟩) [35, 36, 37, 38, 39, 40, 41, 42, 43, 44, 45, 46, 47, 48, 49, 50, 51, 52, 53, 54, 55, 56, 57, 58, 59, 60] ?_ (by simp [pairsD]) (fun t hi => ?_)
   ·exact le1
   by_cases ht' : t < q
   ·obtain ⟨ky, vy, g1, g2, g3⟩ := pcl_get P i t (by omega)
    have g4 : ∃ v, (pairsD P).getD (5 * i) .undef = .agg [.str (keyAt P (5 * i)), .str v] := ⟨(P.getD (5 * i) ([], [])).2, pairsD_get (by omega)⟩
    obtain ⟨v4, g4⟩ := g4
    have gl : ((pcl P i).take t).length = t := by rw [List.length_take]; omega
    have gl2 := (pairsD_len ((pcl P i).take t)).trans gl
    have gl3 : ((pcl P i).take (t + 1)).length = t + 1 := by rw [List.length_take]; omega
    have gl4 := (pairsD_len ((pcl P i).take (t + 1))).trans gl3
    repeat' (first | (show Ev _ (.region _ _ true) _ _; refine D_startA [50, 51, 76, 78, 82, 90, 92, 99998] mix ?_) | (show DrD _ _ _ [] _ _ _ _; refine D_nil ?_; try dsimp only) | (show DrD _ EA _ (_ :: _) _ _ _ _; first | refine D_runLA tok ?_ ?_ (h := by intro R; simp (maxSteps := 1000000) (disch := omega) only [go_sem, wrap_i64_id, g2, g4, g3, gl, gl2, f1]; with_reducible exact rfl)) | (show DrD _ _ _ (_ :: _) _ _ _ _; first | refine D_store tok ?_ ?_ | refine D_eff tok ?_ ?_ | refine D_hold tok ?_ ?_) | (show Ev _ _ _ _; first | refine Ev_seq ?_ | refine W_reg ?_ | refine Ev_block ?_ | refine W_ifY ?_ | refine Ev_skip ?_) | (show EvD _ _ [] _ _ _; refine W_nil ?_) | (show EvD _ _ (⟨_, _, _, _, _, some _⟩ :: _) _ _ _; refine W_grdY ?_) | (show EvD _ _ (_ :: _) _ _ _; first | refine W_run tok ?_ ?_ (by simp (maxSteps := 1000000) (disch := omega) only [go_sem, wrap_i64_id, g2, g4, g3, gl, gl2, f1]; with_reducible exact rfl)) | refine Q_thenN ?_ | refine Q_blkN ?_ | fail)
    all_goals (try exact sd)
    all_goals (try refine F_done ?_)
    ·refine Q_rndC (Rb := σ.rows) (A := σ.boxes) (Mb := σ.maps) (R := ((fun t => [some ⟨leavesX P i, 42, 3⟩, some ⟨strsD (keysL (level0 P i)), 9, 1⟩, some ⟨pairsD ((pcl P i).take t), 39, 2⟩]) (t))) (R' := ((fun t => [some ⟨leavesX P i, 42, 3⟩, some ⟨strsD (keysL (level0 P i)), 9, 1⟩, some ⟨pairsD ((pcl P i).take t), 39, 2⟩]) (t + 1))) (B := ((fun t => [some ⟨42, [.row (σ.rows.length + 2) t, .slt [], .slt []]⟩]) (t))) (B' := ((fun t => [some ⟨42, [.row (σ.rows.length + 2) t, .slt [], .slt []]⟩]) (t + 1))) (M := []) (M' := []) ?_ (by omega) (by first | rfl | simp only [List.append_nil]) (by first | rfl | simp only [List.append_nil]) (by first | ((try simp only [List.append_nil, List.cons_append, List.nil_append, List.append_assoc]) <;> exact rfl) | exact (List.append_nil _).symm) (by first | ((try simp only [List.append_nil, List.cons_append, List.nil_append, List.append_assoc]) <;> exact rfl) | exact (List.append_nil _).symm) (by first | ((try simp only [List.append_nil, List.cons_append, List.nil_append, List.append_assoc]) <;> exact rfl) | exact (List.append_nil _).symm) (by simp) (by simp) (by simp) (by simp [nameds, DV.named, bytes_named, nameds_append, strsD_named, leavesX_named, pairsD_named] <;> omega) (by repeat (first | exact allN_nil _ | refine allN_none ?_ | refine allN_some (by first | exact bytes_named _ _ _ _ | (simp [nameds, DV.named, bytes_named, nameds_append, strsD_named, leavesX_named, pairsD_named] <;> omega)) ?_)) (by repeat (first | exact allN_nil _ | refine allN_none ?_ | refine allN_some (by first | exact bytes_named _ _ _ _ | (simp [nameds, DV.named, bytes_named, nameds_append, strsD_named, leavesX_named, pairsD_named] <;> omega)) ?_)) (by simp)
     repeat (first | exact LeL.nil | refine LeL.cons2 ?_ (Le.undef _) | refine LeL.cons2 ?_ (Le.refl _) | refine LeL.cons2 ?_ (Le.sl _) | refine LeL.cons2 ?_ (Le.eq (by first | rfl | exact congrArg _ (by omega))) | refine LeL.cons2 ?_ (Le.eq ?_))
    all_goals trace_state
   ·obtain rfl : t = q := by omega
    have hky : (if t = 0 then [] else keyAt P (5 * i)) = keyAt P (5 * i) := by
     split
     ·have hge : P.length ≤ 5 * i := by omega
      rw [keyAt, List.getD_eq_getElem?_getD, List.getElem?_eq_none hge]; rfl
     ·rfl
    rw [hky, hq, List.take_length]
    have gl2 := pairsD_len (pcl P i)
    refine W_frzC (σ.rows.length + 2) ?_ (hs := by simp (disch := omega) only [gl2, frzAt, frzAtL, if_pos, if_neg, and_self, if_true]; exact rfl) (hB := by simp (disch := omega) only [frzBox, List.map_cons, List.map_nil, gl2, frzAt, frzAtL, if_pos, if_neg, and_self, if_true]; exact rfl)
    repeat' (first | (show Ev _ _ _ _; first | refine Ev_seq ?_ | refine W_reg ?_ | refine W_ifF ?_ | refine W_ifN ?_ | refine Ev_exit ?_) | (show EvD _ _ [] _ _ _; refine W_nil ?_) | (show EvD _ _ (⟨_, _, _, _, _, some _⟩ :: _) _ _ _; refine W_grdP (fun h => ?_) (fun h => ?_)) | (show EvD _ _ (_ :: _) _ _ _; first | refine W_run tok ?_ ?_ (by simp (maxSteps := 1000000) (disch := omega) only [go_sem, wrap_i64_id, hs1, hs2, f1]; with_reducible exact rfl)) | refine Q_thenN ?_ | refine Q_thenE ?_ | refine Q_blkN ?_ | refine Q_blkE ?_ | refine Q_rndE ?_ | fail)
    all_goals (try exact sd)
    all_goals (try refine F_done ?_)
    ·refine Q_rndC (Rb := σ.rows) (A := σ.boxes) (Mb := σ.maps) (R := ((fun i => [some ⟨leavesX P i, 42, 3⟩, some ⟨strsD (keysL (level0 P i)), 9, 1⟩]) (i))) (R' := ((fun i => [some ⟨leavesX P i, 42, 3⟩, some ⟨strsD (keysL (level0 P i)), 9, 1⟩]) (i + 1))) (B := []) (B' := []) (M := []) (M' := []) ?_ (by omega) (by first | rfl | simp only [List.append_nil]) (by first | rfl | simp only [List.append_nil]) (by first | ((try simp only [List.append_nil, List.cons_append, List.nil_append, List.append_assoc]) <;> exact rfl) | exact (List.append_nil _).symm) (by first | ((try simp only [List.append_nil, List.cons_append, List.nil_append, List.append_assoc]) <;> exact rfl) | exact (List.append_nil _).symm) (by first | ((try simp only [List.append_nil, List.cons_append, List.nil_append, List.append_assoc]) <;> exact rfl) | exact (List.append_nil _).symm) (by simp) (by simp) (by simp) (by simp [nameds, DV.named, bytes_named, nameds_append, strsD_named, leavesX_named, pairsD_named] <;> omega) (by repeat (first | exact allN_nil _ | refine allN_none ?_ | refine allN_some (by first | exact bytes_named _ _ _ _ | (simp [nameds, DV.named, bytes_named, nameds_append, strsD_named, leavesX_named, pairsD_named] <;> omega)) ?_)) (by repeat (first | exact allN_nil _ | refine allN_none ?_ | refine allN_some (by first | exact bytes_named _ _ _ _ | (simp [nameds, DV.named, bytes_named, nameds_append, strsD_named, leavesX_named, pairsD_named] <;> omega)) ?_)) (by simp)
     repeat (first | exact LeL.nil | refine LeL.cons2 ?_ (Le.undef _) | refine LeL.cons2 ?_ (Le.refl _) | refine LeL.cons2 ?_ (Le.sl _) | refine LeL.cons2 ?_ (Le.eq (by first | rfl | exact congrArg _ (by omega))) | refine LeL.cons2 ?_ (Le.eq ?_))
     all_goals trace_state
    ·refine Q_rndC (Rb := σ.rows) (A := σ.boxes) (Mb := σ.maps) (R := ((fun i => [some ⟨leavesX P i, 42, 3⟩, some ⟨strsD (keysL (level0 P i)), 9, 1⟩]) (i))) (R' := ((fun i => [some ⟨leavesX P i, 42, 3⟩, some ⟨strsD (keysL (level0 P i)), 9, 1⟩]) (i + 1))) (B := []) (B' := []) (M := []) (M' := []) ?_ (by omega) (by first | rfl | simp only [List.append_nil]) (by first | rfl | simp only [List.append_nil]) (by first | ((try simp only [List.append_nil, List.cons_append, List.nil_append, List.append_assoc]) <;> exact rfl) | exact (List.append_nil _).symm) (by first | ((try simp only [List.append_nil, List.cons_append, List.nil_append, List.append_assoc]) <;> exact rfl) | exact (List.append_nil _).symm) (by first | ((try simp only [List.append_nil, List.cons_append, List.nil_append, List.append_assoc]) <;> exact rfl) | exact (List.append_nil _).symm) (by simp) (by simp) (by simp) (by simp [nameds, DV.named, bytes_named, nameds_append, strsD_named, leavesX_named, pairsD_named] <;> omega) (by repeat (first | exact allN_nil _ | refine allN_none ?_ | refine allN_some (by first | exact bytes_named _ _ _ _ | (simp [nameds, DV.named, bytes_named, nameds_append, strsD_named, leavesX_named, pairsD_named] <;> omega)) ?_)) (by repeat (first | exact allN_nil _ | refine allN_none ?_ | refine allN_some (by first | exact bytes_named _ _ _ _ | (simp [nameds, DV.named, bytes_named, nameds_append, strsD_named, leavesX_named, pairsD_named] <;> omega)) ?_)) (by simp)
     repeat (first | exact LeL.nil | refine LeL.cons2 ?_ (Le.undef _) | refine LeL.cons2 ?_ (Le.refl _) | refine LeL.cons2 ?_ (Le.sl _) | refine LeL.cons2 ?_ (Le.eq (by first | rfl | exact congrArg _ (by omega))) | refine LeL.cons2 ?_ (Le.eq ?_))
     all_goals trace_state
    all_goals trace_state
  ·repeat' (first | (show Ev _ _ _ _; first | refine Ev_seq ?_ | refine W_reg ?_ | refine Ev_block ?_ | refine W_ifT ?_ | refine Ev_skip ?_) | (show EvD _ _ [] _ _ _; refine W_nil ?_) | (show EvD _ _ (_ :: _) _ _ _; first | refine W_run tok ?_ ?_ (by simp (maxSteps := 1000000) (disch := omega) only [go_sem, wrap_i64_id, f1, f2]; with_reducible exact rfl)) | refine Q_thenN ?_ | fail)
   all_goals (try exact sd)
   all_goals (try refine F_done ?_)
   refine Ev_seedB σ.boxes.length 0 39 2 (by (try simp only [app_get, app_get0, List.getElem?_cons_succ, List.getElem?_cons_zero]) <;> exact rfl) (by (try simp only [List.getElem?_cons_succ, List.getElem?_cons_zero]) <;> exact rfl) (by decide) (by (try simp only [app_len, List.length_cons, List.length_nil, Nat.zero_add, Nat.reduceAdd, app_set, app_set0, List.set_cons_succ, List.set_cons_zero]) <;> exact rfl) (by (try simp only [List.append_assoc, List.cons_append, List.nil_append]) <;> exact rfl) ?_
   refine Ev_lp (q) (fun t => [(8, .str (if t = 0 then [] else keyAt P (5 * i))), (9, i64 (5 * i + t : Nat))]) (fun t => ⟨σ.rows ++ [some ⟨leavesX P i, 42, 3⟩, some ⟨strsD (keysL (level0 P i)), 9, 1⟩, some ⟨pairsD ((pcl P i).take t), 39, 2⟩], σ.boxes ++ [some ⟨42, [.row (σ.rows.length + 2) t, .slt [], .slt []]⟩], σ.maps⟩) [35, 36, 37, 38, 39, 40, 41, 42, 43, 44, 45, 46, 47, 48, 49, 50, 51, 52, 53, 54, 55, 56, 57, 58, 59, 60] ?_ (by simp [pairsD]) (fun t hi => ?_)
   ·exact le1
   by_cases ht' : t < q
   ·obtain ⟨ky, vy, g1, g2, g3⟩ := pcl_get P i t (by omega)
    have g4 : ∃ v, (pairsD P).getD (5 * i) .undef = .agg [.str (keyAt P (5 * i)), .str v] := ⟨(P.getD (5 * i) ([], [])).2, pairsD_get (by omega)⟩
    obtain ⟨v4, g4⟩ := g4
    have gl : ((pcl P i).take t).length = t := by rw [List.length_take]; omega
    have gl2 := (pairsD_len ((pcl P i).take t)).trans gl
    have gl3 : ((pcl P i).take (t + 1)).length = t + 1 := by rw [List.length_take]; omega
    have gl4 := (pairsD_len ((pcl P i).take (t + 1))).trans gl3
    repeat' (first | (show Ev _ (.region _ _ true) _ _; refine D_startA [50, 51, 76, 78, 82, 90, 92, 99998] mix ?_) | (show DrD _ _ _ [] _ _ _ _; refine D_nil ?_; try dsimp only) | (show DrD _ EA _ (_ :: _) _ _ _ _; first | refine D_runLA tok ?_ ?_ (h := by intro R; simp (maxSteps := 1000000) (disch := omega) only [go_sem, wrap_i64_id, g2, g4, g3, gl, gl2, f1, f2]; with_reducible exact rfl)) | (show DrD _ _ _ (_ :: _) _ _ _ _; first | refine D_store tok ?_ ?_ | refine D_eff tok ?_ ?_ | refine D_hold tok ?_ ?_) | (show Ev _ _ _ _; first | refine Ev_seq ?_ | refine W_reg ?_ | refine Ev_block ?_ | refine W_ifY ?_ | refine Ev_skip ?_) | (show EvD _ _ [] _ _ _; refine W_nil ?_) | (show EvD _ _ (⟨_, _, _, _, _, some _⟩ :: _) _ _ _; refine W_grdY ?_) | (show EvD _ _ (_ :: _) _ _ _; first | refine W_run tok ?_ ?_ (by simp (maxSteps := 1000000) (disch := omega) only [go_sem, wrap_i64_id, g2, g4, g3, gl, gl2, f1, f2]; with_reducible exact rfl)) | refine Q_thenN ?_ | refine Q_blkN ?_ | fail)
    all_goals (try exact sd)
    all_goals (try refine F_done ?_)
    ·refine Q_rndC (Rb := σ.rows) (A := σ.boxes) (Mb := σ.maps) (R := ((fun t => [some ⟨leavesX P i, 42, 3⟩, some ⟨strsD (keysL (level0 P i)), 9, 1⟩, some ⟨pairsD ((pcl P i).take t), 39, 2⟩]) (t))) (R' := ((fun t => [some ⟨leavesX P i, 42, 3⟩, some ⟨strsD (keysL (level0 P i)), 9, 1⟩, some ⟨pairsD ((pcl P i).take t), 39, 2⟩]) (t + 1))) (B := ((fun t => [some ⟨42, [.row (σ.rows.length + 2) t, .slt [], .slt []]⟩]) (t))) (B' := ((fun t => [some ⟨42, [.row (σ.rows.length + 2) t, .slt [], .slt []]⟩]) (t + 1))) (M := []) (M' := []) ?_ (by omega) (by first | rfl | simp only [List.append_nil]) (by first | rfl | simp only [List.append_nil]) (by first | ((try simp only [List.append_nil, List.cons_append, List.nil_append, List.append_assoc]) <;> exact rfl) | exact (List.append_nil _).symm) (by first | ((try simp only [List.append_nil, List.cons_append, List.nil_append, List.append_assoc]) <;> exact rfl) | exact (List.append_nil _).symm) (by first | ((try simp only [List.append_nil, List.cons_append, List.nil_append, List.append_assoc]) <;> exact rfl) | exact (List.append_nil _).symm) (by simp) (by simp) (by simp) (by simp [nameds, DV.named, bytes_named, nameds_append, strsD_named, leavesX_named, pairsD_named] <;> omega) (by repeat (first | exact allN_nil _ | refine allN_none ?_ | refine allN_some (by first | exact bytes_named _ _ _ _ | (simp [nameds, DV.named, bytes_named, nameds_append, strsD_named, leavesX_named, pairsD_named] <;> omega)) ?_)) (by repeat (first | exact allN_nil _ | refine allN_none ?_ | refine allN_some (by first | exact bytes_named _ _ _ _ | (simp [nameds, DV.named, bytes_named, nameds_append, strsD_named, leavesX_named, pairsD_named] <;> omega)) ?_)) (by simp)
     repeat (first | exact LeL.nil | refine LeL.cons2 ?_ (Le.undef _) | refine LeL.cons2 ?_ (Le.refl _) | refine LeL.cons2 ?_ (Le.sl _) | refine LeL.cons2 ?_ (Le.eq (by first | rfl | exact congrArg _ (by omega))) | refine LeL.cons2 ?_ (Le.eq ?_))
    all_goals trace_state
   ·obtain rfl : t = q := by omega
    have hky : (if t = 0 then [] else keyAt P (5 * i)) = keyAt P (5 * i) := by
     split
     ·have hge : P.length ≤ 5 * i := by omega
      rw [keyAt, List.getD_eq_getElem?_getD, List.getElem?_eq_none hge]; rfl
     ·rfl
    rw [hky, hq, List.take_length]
    have gl2 := pairsD_len (pcl P i)
    refine W_frzC (σ.rows.length + 2) ?_ (hs := by simp (disch := omega) only [gl2, frzAt, frzAtL, if_pos, if_neg, and_self, if_true]; exact rfl) (hB := by simp (disch := omega) only [frzBox, List.map_cons, List.map_nil, gl2, frzAt, frzAtL, if_pos, if_neg, and_self, if_true]; exact rfl)
    repeat' (first | (show Ev _ _ _ _; first | refine Ev_seq ?_ | refine W_reg ?_ | refine W_ifF ?_ | refine W_ifN ?_ | refine Ev_exit ?_) | (show EvD _ _ [] _ _ _; refine W_nil ?_) | (show EvD _ _ (⟨_, _, _, _, _, some _⟩ :: _) _ _ _; refine W_grdP (fun h => ?_) (fun h => ?_)) | (show EvD _ _ (_ :: _) _ _ _; first | refine W_run tok ?_ ?_ (by simp (maxSteps := 1000000) (disch := omega) only [go_sem, wrap_i64_id, hs1, hs2, f1, f2]; with_reducible exact rfl)) | refine Q_thenN ?_ | refine Q_thenE ?_ | refine Q_blkN ?_ | refine Q_blkE ?_ | refine Q_rndE ?_ | fail)
    all_goals (try exact sd)
    all_goals (try refine F_done ?_)
    ·refine Q_rndC (Rb := σ.rows) (A := σ.boxes) (Mb := σ.maps) (R := ((fun i => [some ⟨leavesX P i, 42, 3⟩, some ⟨strsD (keysL (level0 P i)), 9, 1⟩]) (i))) (R' := ((fun i => [some ⟨leavesX P i, 42, 3⟩, some ⟨strsD (keysL (level0 P i)), 9, 1⟩]) (i + 1))) (B := []) (B' := []) (M := []) (M' := []) ?_ (by omega) (by first | rfl | simp only [List.append_nil]) (by first | rfl | simp only [List.append_nil]) (by first | ((try simp only [List.append_nil, List.cons_append, List.nil_append, List.append_assoc]) <;> exact rfl) | exact (List.append_nil _).symm) (by first | ((try simp only [List.append_nil, List.cons_append, List.nil_append, List.append_assoc]) <;> exact rfl) | exact (List.append_nil _).symm) (by first | ((try simp only [List.append_nil, List.cons_append, List.nil_append, List.append_assoc]) <;> exact rfl) | exact (List.append_nil _).symm) (by simp) (by simp) (by simp) (by simp [nameds, DV.named, bytes_named, nameds_append, strsD_named, leavesX_named, pairsD_named] <;> omega) (by repeat (first | exact allN_nil _ | refine allN_none ?_ | refine allN_some (by first | exact bytes_named _ _ _ _ | (simp [nameds, DV.named, bytes_named, nameds_append, strsD_named, leavesX_named, pairsD_named] <;> omega)) ?_)) (by repeat (first | exact allN_nil _ | refine allN_none ?_ | refine allN_some (by first | exact bytes_named _ _ _ _ | (simp [nameds, DV.named, bytes_named, nameds_append, strsD_named, leavesX_named, pairsD_named] <;> omega)) ?_)) (by simp)
     repeat (first | exact LeL.nil | refine LeL.cons2 ?_ (Le.undef _) | refine LeL.cons2 ?_ (Le.refl _) | refine LeL.cons2 ?_ (Le.sl _) | refine LeL.cons2 ?_ (Le.eq (by first | rfl | exact congrArg _ (by omega))) | refine LeL.cons2 ?_ (Le.eq ?_))
     all_goals trace_state
    ·refine Q_rndC (Rb := σ.rows) (A := σ.boxes) (Mb := σ.maps) (R := ((fun i => [some ⟨leavesX P i, 42, 3⟩, some ⟨strsD (keysL (level0 P i)), 9, 1⟩]) (i))) (R' := ((fun i => [some ⟨leavesX P i, 42, 3⟩, some ⟨strsD (keysL (level0 P i)), 9, 1⟩]) (i + 1))) (B := []) (B' := []) (M := []) (M' := []) ?_ (by omega) (by first | rfl | simp only [List.append_nil]) (by first | rfl | simp only [List.append_nil]) (by first | ((try simp only [List.append_nil, List.cons_append, List.nil_append, List.append_assoc]) <;> exact rfl) | exact (List.append_nil _).symm) (by first | ((try simp only [List.append_nil, List.cons_append, List.nil_append, List.append_assoc]) <;> exact rfl) | exact (List.append_nil _).symm) (by first | ((try simp only [List.append_nil, List.cons_append, List.nil_append, List.append_assoc]) <;> exact rfl) | exact (List.append_nil _).symm) (by simp) (by simp) (by simp) (by simp [nameds, DV.named, bytes_named, nameds_append, strsD_named, leavesX_named, pairsD_named] <;> omega) (by repeat (first | exact allN_nil _ | refine allN_none ?_ | refine allN_some (by first | exact bytes_named _ _ _ _ | (simp [nameds, DV.named, bytes_named, nameds_append, strsD_named, leavesX_named, pairsD_named] <;> omega)) ?_)) (by repeat (first | exact allN_nil _ | refine allN_none ?_ | refine allN_some (by first | exact bytes_named _ _ _ _ | (simp [nameds, DV.named, bytes_named, nameds_append, strsD_named, leavesX_named, pairsD_named] <;> omega)) ?_)) (by simp)
     repeat (first | exact LeL.nil | refine LeL.cons2 ?_ (Le.undef _) | refine LeL.cons2 ?_ (Le.refl _) | refine LeL.cons2 ?_ (Le.sl _) | refine LeL.cons2 ?_ (Le.eq (by first | rfl | exact congrArg _ (by omega))) | refine LeL.cons2 ?_ (Le.eq ?_))
     all_goals trace_state
    all_goals trace_state
 ·obtain rfl : i = m := by omega
  have f1 : decide (((5 * i : Nat) : Int) = 0) = false := decide_eq_false (by omega)
  have f2 : decide (((5 * i : Nat) : Int) < (P.length : Int)) = false := decide_eq_false (by have := hmi (by omega); omega)
  have hb0 : keysL (level0 P i) = leastL P 0 := by show _ = keysL (level0 P (nL P.length)); rw [hmn]
  have hb1 : leavesX P i = bstX P 0 := by show _ = leavesX P (nL P.length); rw [hmn]
  repeat' (first | (show Ev _ _ _ _; first | refine Ev_seq ?_ | refine W_reg ?_ | refine Ev_block ?_ | refine W_ifF ?_ | refine Ev_exit ?_) | (show EvD _ _ [] _ _ _; refine W_nil ?_) | (show EvD _ _ (_ :: _) _ _ _; first | refine W_run tok ?_ ?_ (by simp (maxSteps := 1000000) (disch := omega) only [go_sem, wrap_i64_id, f1, f2]; with_reducible exact rfl)) | refine Q_thenN ?_ | refine Q_thenE ?_ | refine Q_blkE ?_ | refine Q_rndE ?_ | fail)
  all_goals (try exact sd)
  all_goals (try refine F_done ?_)
  rw [hb0, hb1]
  obtain ⟨R, hR⟩ : ∃ R, R = rdC i := ⟨_, rfl⟩
  have hR4 : R ≤ 4 := hR ▸ rdC_le i
  have hend : lvN i R ≤ 1 := hR ▸ rdC_end hn2
  rw [← hR]
  refine Ev_lp (R) (fun r => [(4, .row σ.rows.length (sumL i r)), (5, .row (σ.rows.length + 1) (sumL i r)), (10, i64 (sumP i r : Nat)), (11, i64 (sumL i r : Nat))]) (fun r => ⟨σ.rows ++ [some ⟨bstX P r, 42, 3⟩, some ⟨strsD (leastL P r), 9, 1⟩], σ.boxes, σ.maps⟩) [12, 13, 14, 15, 71, 72, 73, 74, 75, 76, 77, 78, 79, 80, 81, 82, 83, 84, 85, 86, 87, 88, 89, 90, 91, 92, 93, 94, 95, 96, 97, 98, 99, 100, 101, 102, 103, 104, 105, 106, 107, 108, 109, 110, 111, 112, 113, 114, 115, 116, 117, 118, 119, 120, 121, 122, 123, 124, 125, 126, 127, 128, 129] ?_ (by simp) (fun r hi => ?_)
  ·exact le1
  have hlv : (bst P r).2.length = lvN i r := by rw [bst_len, hmn]
  have hxl : (bstX P r).length = sumL i r := by rw [bstX_len, bst_all, hmn]
  have hyl : (leastL P r).length = sumL i r := by rw [leastL_len, hmn]
  have hyl2 := (strsD_len (leastL P r)).trans hyl
  have hlv6 := lvN_le hn2 r
  have hsl6 := sumL_le hn2 r
  have hsP := sumP_L i r
  have hsS : sumP i (r + 1) = sumL i r := sumP_sumL i r
  by_cases hr' : r < R
  ·have hg1 : 1 < lvN i r := rdC_lt (hR ▸ hr')
   obtain ⟨k, hk⟩ : ∃ k, k = pcM (lvN i r) 8 := ⟨_, rfl⟩
   have hk6 : k ≤ 600 := by rw [hk]; unfold pcM; omega
   have hst0 : stG (lvN i r) 0 = 0 := by unfold stG; simp
   repeat' (first | (show Ev _ _ _ _; first | refine Ev_seq ?_ | refine W_reg ?_ | refine Ev_block ?_ | refine W_ifY ?_ | refine Ev_skip ?_) | (show EvD _ _ [] _ _ _; refine W_nil ?_) | (show EvD _ _ (_ :: _) _ _ _; first | refine W_run tok ?_ ?_ (by simp (maxSteps := 1000000) (disch := omega) only [go_sem, wrap_i64_id]; with_reducible exact rfl)) | refine Q_thenN ?_ | fail)
   all_goals (try exact sd)
   all_goals (try refine F_done ?_)
   refine Ev_lp (k) (fun g => [(4, .row σ.rows.length (sumL i r + g)), (5, .row (σ.rows.length + 1) (sumL i r + g)), (12, i64 (sumP i r + stG (lvN i r) g : Nat))]) (fun g => ⟨σ.rows ++ [some ⟨bstX P r ++ nodesGX (bst P r).2 g, 42, 3⟩, some ⟨strsD (leastL P r) ++ strsD (keysL (partsG (sumL i r) (bst P r).2 g)), 9, 1⟩], σ.boxes, σ.maps⟩) [13, 14, 15, 76, 77, 78, 79, 80, 81, 82, 83, 84, 85, 86, 87, 88, 89, 90, 91, 92, 93, 94, 95, 96, 97, 98, 99, 100, 101, 102, 103, 104, 105, 106, 107, 108, 109, 110, 111, 112, 113, 114, 115, 116, 117, 118, 119, 120, 121, 122, 123, 124, 125, 126] ?_ (by simp [nodesGX, partsG, strsD, keysL]) (fun g hi => ?_)
   ·exact le1
   have hx1 := nodesGX_len (bst P r).2 g
   have hx2 := (keysL_len (partsG (sumL i r) (bst P r).2 g)).trans (partsG_len (sumL i r) (bst P r).2 g)
   have hx3 := (strsD_len (keysL (partsG (sumL i r) (bst P r).2 g))).trans hx2
   by_cases hg' : g < k
   ·have hgk : g < pcM (bst P r).2.length 8 := by rw [hlv, ← hk]; exact hg'
    obtain ⟨q1, q2⟩ := grp_len (by rw [hlv]; exact hg1) hgk
    obtain ⟨s1, s2, s3⟩ := stG_step hg1 (by rw [← hk]; exact hg')
    have hgg := grp_get (bst P r).2 g
    have q3 : (grp (bst P r).2 g).length = stG (lvN i r) (g + 1) - stG (lvN i r) g := by
     simp only [grp, List.length_take, List.length_drop, hlv]; omega
    have hsn1 := keysL_snoc (sumL i r) (bst P r).2 g
    have hsn2 := nodesGX_snoc (bst P r).2 g
    have q4 : (lvN i r - stG (lvN i r) g = 9 ∧ stG (lvN i r) (g + 1) = stG (lvN i r) g + 7) ∨ (9 < lvN i r - stG (lvN i r) g ∧ stG (lvN i r) (g + 1) = stG (lvN i r) g + 8) ∨ (lvN i r - stG (lvN i r) g ≤ 8 ∧ stG (lvN i r) (g + 1) = lvN i r) := by
     have hg8 : 8 * g < lvN i r := by have := hg'; rw [hk] at this; unfold pcM at this; omega
     by_cases a : 8 * g + 1 = lvN i r ∧ 0 < g
     ·rw [stG_cut a.1 a.2, stG_end (by omega)]; omega
     ·rw [stG_mul a (by omega)]
      by_cases b : 8 * (g + 1) + 1 = lvN i r
      ·rw [stG_cut b (by omega)]; omega
      ·by_cases e : lvN i r ≤ 8 * (g + 1)
       ·rw [stG_end e]; omega
       ·rw [stG_mul (by omega) (by omega)]; omega
    rw [hlv] at hgg
    obtain ⟨a, ha⟩ : ∃ a, a = stG (lvN i r) g := ⟨_, rfl⟩
    rw [← ha] at hgg q3 q4 s1 s3
    obtain ⟨q, hq⟩ : ∃ q, q = grp (bst P r).2 g := ⟨_, rfl⟩
    rw [← hq] at q1 q2 hsn1 hsn2 hgg q3
    unfold innX at hsn2
    have hgA : ∀ t, t < q.length → (q.getD t (0, [])).1 = sumP i r + a + t ∧ (strsD (leastL P r) ++ strsD (keysL (partsG (sumL i r) (bst P r).2 g))).getD (sumP i r + a + t) .undef = .str (q.getD t (0, [])).2 := by
     intro t ht
     have hlt : a + t < (bst P r).2.length := by omega
     have h1 := bst_fst P r (a + t) (by rw [hmn]; omega)
     have h2 := leastL_get P r (a + t)
     rw [hmn, ← Nat.add_assoc] at h1 h2
     rw [List.getElem?_eq_getElem hlt] at h1 h2
     simp only [Option.map_some, Option.some.injEq] at h1 h2
     rw [hgg t ht, List.getD_eq_getElem?_getD, List.getElem?_eq_getElem hlt]
     refine ⟨h1, ?_⟩
     have hlt2 : sumP i r + a + t < (leastL P r).length := by omega
     rw [List.getD_eq_getElem?_getD, List.getElem?_append_left (by rw [strsD_len]; exact hlt2), strsD, List.getElem?_map, h2]
     rfl
    have ew : ((sumL i r : Nat) : Int) - ((sumP i r + a : Nat) : Int) = ((lvN i r - a : Nat) : Int) := by omega
    rw [← ha]
    rcases q4 with ⟨w1, w2⟩ | ⟨w1, w2⟩ | ⟨w1, w2⟩
    ·have f9 : decide (((lvN i r - a : Nat) : Int) = 9) = true := decide_eq_true (by omega)
     have f8 : q.length = 7 := by omega
     repeat' (first | (show Ev _ _ _ _; first | refine Ev_seq ?_ | refine W_reg ?_ | refine Ev_block ?_ | refine W_ifT ?_ | refine W_ifY ?_ | refine W_ifN ?_ | refine Ev_skip ?_) | (show EvD _ _ [] _ _ _; refine W_nil ?_) | (show EvD _ _ (_ :: _) _ _ _; first | refine W_run tok ?_ ?_ (by simp (maxSteps := 1000000) (disch := omega) only [go_sem, wrap_i64_id, ew, f9, f8]; with_reducible exact rfl)) | refine Q_thenN ?_ | fail)
     all_goals (try exact sd)
     all_goals (try refine F_done ?_)
     refine Ev_seedB σ.boxes.length 1 9 1 (by (try simp only [app_get, app_get0, List.getElem?_cons_succ, List.getElem?_cons_zero]) <;> exact rfl) (by (try simp only [List.getElem?_cons_succ, List.getElem?_cons_zero]) <;> exact rfl) (by decide) (by (try simp only [app_len, List.length_cons, List.length_nil, Nat.zero_add, Nat.reduceAdd, app_set, app_set0, List.set_cons_succ, List.set_cons_zero]) <;> exact rfl) (by (try simp only [List.append_assoc, List.cons_append, List.nil_append]) <;> exact rfl) ?_
     refine Ev_seedB σ.boxes.length 2 3 1 (by (try simp only [app_get, app_get0, List.getElem?_cons_succ, List.getElem?_cons_zero]) <;> exact rfl) (by (try simp only [List.getElem?_cons_succ, List.getElem?_cons_zero]) <;> exact rfl) (by decide) (by (try simp only [app_len, List.length_cons, List.length_nil, Nat.zero_add, Nat.reduceAdd, app_set, app_set0, List.set_cons_succ, List.set_cons_zero]) <;> exact rfl) (by (try simp only [List.append_assoc, List.cons_append, List.nil_append]) <;> exact rfl) ?_
     refine Ev_lp (q.length) (fun j => [(15, i64 (sumP i r + a + j : Nat))]) (fun j => ⟨σ.rows ++ [some ⟨bstX P r ++ nodesGX (bst P r).2 g, 42, 3⟩, some ⟨strsD (leastL P r) ++ strsD (keysL (partsG (sumL i r) (bst P r).2 g)), 9, 1⟩, some ⟨strsD (keysG (q.take j)), 9, 1⟩, some ⟨kidsD (kidsG (q.take j)), 3, 1⟩], σ.boxes ++ [some ⟨42, [.slt [], .row (σ.rows.length + 2) (j - 1), .row (σ.rows.length + 3) j]⟩], σ.maps⟩) [88, 89, 90, 91, 92, 93, 94, 95, 96, 97, 98, 99, 100, 101, 102, 103, 104, 105, 106, 107, 108, 109, 110, 111, 112] ?_ (by simp [keysG, kidsG, strsD, kidsD]) (fun j hi => ?_)
     ·exact le1
     by_cases hj' : j < q.length
     ·obtain ⟨hgj, hgs⟩ := hgA j hj'
      have hks := kids_snoc hj'
      rw [hgj] at hks
      have hkl : (kidsG (q.take j)).length = j := by rw [kidsG_len, List.length_take]; omega
      have hyl : (keysG (q.take j)).length = j - 1 := by rw [keysG_len, List.length_take]; omega
      have hkl2 := (kidsD_len (kidsG (q.take j))).trans hkl
      have hyl2 := (strsD_len (keysG (q.take j))).trans hyl
      have hkl' : (kidsG (q.take (j + 1))).length = j + 1 := by rw [kidsG_len, List.length_take]; omega
      have hyl' : (keysG (q.take (j + 1))).length = j := by rw [keysG_len, List.length_take]; omega
      rcases j with _ | j
      ·have hk1 : keysG (q.take (0 + 1)) = [] := keysG_one q
       have hk2 : keysG [] = [] := rfl
       rw [List.take_zero, Nat.add_zero] at hks
       rw [List.take_zero] at hkl hyl hkl2 hyl2
       repeat' (first | (show Ev _ _ _ _; first | refine Ev_seq ?_ | refine W_reg ?_ | refine Ev_block ?_ | refine W_ifY ?_ | refine W_ifN ?_ | refine Ev_skip ?_) | (show EvD _ _ [] _ _ _; refine W_nil ?_) | (show EvD _ _ (_ :: _) _ _ _; first | refine W_run tok ?_ ?_ (by simp (maxSteps := 1000000) (disch := omega) only [go_sem, wrap_i64_id, ew, hks, hkl2]; with_reducible exact rfl)) | refine Q_thenN ?_ | refine Q_blkN ?_ | fail)
       all_goals (try exact sd)
       all_goals (try refine F_done ?_)
       ·refine Q_rndC (Rb := σ.rows) (A := σ.boxes) (Mb := σ.maps) (R := ((fun j => [some ⟨bstX P r ++ nodesGX (bst P r).2 g, 42, 3⟩, some ⟨strsD (leastL P r) ++ strsD (keysL (partsG (sumL i r) (bst P r).2 g)), 9, 1⟩, some ⟨strsD (keysG (q.take j)), 9, 1⟩, some ⟨kidsD (kidsG (q.take j)), 3, 1⟩]) (0))) (R' := ((fun j => [some ⟨bstX P r ++ nodesGX (bst P r).2 g, 42, 3⟩, some ⟨strsD (leastL P r) ++ strsD (keysL (partsG (sumL i r) (bst P r).2 g)), 9, 1⟩, some ⟨strsD (keysG (q.take j)), 9, 1⟩, some ⟨kidsD (kidsG (q.take j)), 3, 1⟩]) (0 + 1))) (B := ((fun j => [some ⟨42, [.slt [], .row (σ.rows.length + 2) (j - 1), .row (σ.rows.length + 3) j]⟩]) (0))) (B' := ((fun j => [some ⟨42, [.slt [], .row (σ.rows.length + 2) (j - 1), .row (σ.rows.length + 3) j]⟩]) (0 + 1))) (M := []) (M' := []) ?_ (by omega) (by first | rfl | simp only [List.append_nil]) (by first | rfl | simp only [List.append_nil]) (by first | ((try simp only [List.append_nil, List.cons_append, List.nil_append, List.append_assoc, hk1, hk2, hks]) <;> exact rfl) | exact (List.append_nil _).symm) (by first | ((try simp only [List.append_nil, List.cons_append, List.nil_append, List.append_assoc, hk1, hk2, hks]) <;> exact rfl) | exact (List.append_nil _).symm) (by first | ((try simp only [List.append_nil, List.cons_append, List.nil_append, List.append_assoc, hk1, hk2, hks]) <;> exact rfl) | exact (List.append_nil _).symm) (by simp) (by simp) (by simp) (by simp [nameds, DV.named, bytes_named, nameds_append, strsD_named, kidsD_named, bstX_named, nodesGX_named, pairsD_named, nameds_append] <;> omega) (by repeat (first | exact allN_nil _ | refine allN_none ?_ | refine allN_some (by first | exact bytes_named _ _ _ _ | (simp [nameds, DV.named, bytes_named, nameds_append, strsD_named, kidsD_named, bstX_named, nodesGX_named, pairsD_named, nameds_append] <;> omega)) ?_)) (by repeat (first | exact allN_nil _ | refine allN_none ?_ | refine allN_some (by first | exact bytes_named _ _ _ _ | (simp [nameds, DV.named, bytes_named, nameds_append, strsD_named, kidsD_named, bstX_named, nodesGX_named, pairsD_named, nameds_append] <;> omega)) ?_)) (by simp)
        repeat (first | exact LeL.nil | refine LeL.cons2 ?_ (Le.undef _) | refine LeL.cons2 ?_ (Le.refl _) | refine LeL.cons2 ?_ (Le.sl _) | refine LeL.cons2 ?_ (Le.eq (by first | rfl | exact congrArg _ (by omega))) | refine LeL.cons2 ?_ (Le.eq ?_))
       all_goals first | (rw [hkl]; exact ⟨rfl, rfl⟩) | exact hkl | exact hkl' | trace_state
      ·have hys := keys_snoc hj'
       repeat' (first | (show Ev _ (.region _ _ true) _ _; refine D_startA [50, 51, 76, 78, 82, 90, 92, 99998, 99997] mix ?_) | (show DrD _ _ _ [] _ _ _ _; refine D_nil ?_; try dsimp only) | (show DrD _ EA _ (_ :: _) _ _ _ _; first | refine D_runLA tok ?_ ?_ (h := by intro R; simp (maxSteps := 1000000) (disch := omega) only [go_sem, wrap_i64_id, ew, hgs, hks, hys, hkl2, hyl2]; with_reducible exact rfl)) | (show DrD _ _ _ (_ :: _) _ _ _ _; first | refine D_store tok ?_ ?_ | refine D_eff tok ?_ ?_ | refine D_hold tok ?_ ?_) | (show Ev _ _ _ _; first | refine Ev_seq ?_ | refine W_reg ?_ | refine Ev_block ?_ | refine W_ifY ?_ | refine Ev_skip ?_) | (show EvD _ _ [] _ _ _; refine W_nil ?_) | (show EvD _ _ (_ :: _) _ _ _; first | refine W_run tok ?_ ?_ (by simp (maxSteps := 1000000) (disch := omega) only [go_sem, wrap_i64_id, ew, hgs, hks, hys, hkl2, hyl2]; with_reducible exact rfl)) | refine Q_thenN ?_ | refine Q_blkN ?_ | fail)
       all_goals (try exact sd)
       all_goals (try refine F_done ?_)
       all_goals (try (first | exact ⟨by omega, by omega, by rw [hgs]; exact Nat.one_pos⟩ | exact ⟨by omega, by omega⟩ | exact ⟨by omega, hyl'⟩ | exact ⟨by omega, hkl'⟩))
       ·refine Q_rndC (Rb := σ.rows) (A := σ.boxes) (Mb := σ.maps) (R := ((fun j => [some ⟨bstX P r ++ nodesGX (bst P r).2 g, 42, 3⟩, some ⟨strsD (leastL P r) ++ strsD (keysL (partsG (sumL i r) (bst P r).2 g)), 9, 1⟩, some ⟨strsD (keysG (q.take j)), 9, 1⟩, some ⟨kidsD (kidsG (q.take j)), 3, 1⟩]) (j + 1))) (R' := ((fun j => [some ⟨bstX P r ++ nodesGX (bst P r).2 g, 42, 3⟩, some ⟨strsD (leastL P r) ++ strsD (keysL (partsG (sumL i r) (bst P r).2 g)), 9, 1⟩, some ⟨strsD (keysG (q.take j)), 9, 1⟩, some ⟨kidsD (kidsG (q.take j)), 3, 1⟩]) (j + 1 + 1))) (B := ((fun j => [some ⟨42, [.slt [], .row (σ.rows.length + 2) (j - 1), .row (σ.rows.length + 3) j]⟩]) (j + 1))) (B' := ((fun j => [some ⟨42, [.slt [], .row (σ.rows.length + 2) (j - 1), .row (σ.rows.length + 3) j]⟩]) (j + 1 + 1))) (M := []) (M' := []) ?_ (by omega) (by first | rfl | simp only [List.append_nil]) (by first | rfl | simp only [List.append_nil]) (by first | ((try simp only [List.append_nil, List.cons_append, List.nil_append, List.append_assoc]) <;> exact rfl) | exact (List.append_nil _).symm) (by first | ((try simp only [List.append_nil, List.cons_append, List.nil_append, List.append_assoc]) <;> exact rfl) | exact (List.append_nil _).symm) (by first | ((try simp only [List.append_nil, List.cons_append, List.nil_append, List.append_assoc]) <;> exact rfl) | exact (List.append_nil _).symm) (by simp) (by simp) (by simp) (by simp [nameds, DV.named, bytes_named, nameds_append, strsD_named, kidsD_named, bstX_named, nodesGX_named, pairsD_named, nameds_append] <;> omega) (by repeat (first | exact allN_nil _ | refine allN_none ?_ | refine allN_some (by first | exact bytes_named _ _ _ _ | (simp [nameds, DV.named, bytes_named, nameds_append, strsD_named, kidsD_named, bstX_named, nodesGX_named, pairsD_named, nameds_append] <;> omega)) ?_)) (by repeat (first | exact allN_nil _ | refine allN_none ?_ | refine allN_some (by first | exact bytes_named _ _ _ _ | (simp [nameds, DV.named, bytes_named, nameds_append, strsD_named, kidsD_named, bstX_named, nodesGX_named, pairsD_named, nameds_append] <;> omega)) ?_)) (by simp)
        repeat (first | exact LeL.nil | refine LeL.cons2 ?_ (Le.undef _) | refine LeL.cons2 ?_ (Le.refl _) | refine LeL.cons2 ?_ (Le.sl _) | refine LeL.cons2 ?_ (Le.eq (by first | rfl | exact congrArg _ (by omega))) | refine LeL.cons2 ?_ (Le.eq ?_))
       all_goals first | exact ⟨by omega, hyl'⟩ | exact ⟨by omega, hkl'⟩ | trace_state
     ·obtain rfl : j = q.length := by omega
      rw [List.take_length]
      have hkl2 := (kidsD_len (kidsG q)).trans (kidsG_len q)
      have hyl2 := (strsD_len (keysG q)).trans (keysG_len q)
      refine W_frzC (σ.rows.length + 2) ?_ (hs := by simp (disch := omega) only [hyl2, frzAt, frzAtL, if_pos, if_neg, and_self, if_true]; exact rfl) (hB := by simp (disch := omega) only [frzBox, List.map_cons, List.map_nil, hyl2, frzAt, frzAtL, if_pos, if_neg, and_self, if_true]; exact rfl)
      refine W_frzC (σ.rows.length + 3) ?_ (hs := by simp (disch := omega) only [hkl2, frzAt, frzAtL, if_pos, if_neg, and_self, if_true]; exact rfl) (hB := by simp (disch := omega) only [frzBox, List.map_cons, List.map_nil, hkl2, frzAt, frzAtL, if_pos, if_neg, and_self, if_true]; exact rfl)
      have hgz := (hgA 0 (by omega)).2
      rw [Nat.add_zero] at hgz
      repeat' (first | (show Ev _ _ _ _; first | refine Ev_seq ?_ | refine W_reg ?_ | refine W_ifN ?_ | refine Ev_exit ?_) | (show EvD _ _ [] _ _ _; refine W_nil ?_) | (show EvD _ _ (_ :: _) _ _ _; first | refine W_run tok ?_ ?_ (by simp (maxSteps := 1000000) (disch := omega) only [go_sem, wrap_i64_id, ew, hgz, hsn1, hsn2]; with_reducible exact rfl)) | refine Q_thenN ?_ | refine Q_thenE ?_ | refine Q_blkN ?_ | refine Q_blkE ?_ | refine Q_rndE ?_ | fail)
      all_goals (try exact sd)
      all_goals (try refine F_done ?_)
      ·refine Q_rndC (Rb := σ.rows) (A := σ.boxes) (Mb := σ.maps) (R := ((fun g => [some ⟨bstX P r ++ nodesGX (bst P r).2 g, 42, 3⟩, some ⟨strsD (leastL P r) ++ strsD (keysL (partsG (sumL i r) (bst P r).2 g)), 9, 1⟩]) (g))) (R' := ((fun g => [some ⟨bstX P r ++ nodesGX (bst P r).2 g, 42, 3⟩, some ⟨strsD (leastL P r) ++ strsD (keysL (partsG (sumL i r) (bst P r).2 g)), 9, 1⟩]) (g + 1))) (B := []) (B' := []) (M := []) (M' := []) ?_ (by omega) (by first | rfl | simp only [List.append_nil]) (by first | rfl | simp only [List.append_nil]) (by first | ((try simp only [List.append_nil, List.cons_append, List.nil_append, List.append_assoc]) <;> exact rfl) | exact (List.append_nil _).symm) (by first | ((try simp only [List.append_nil, List.cons_append, List.nil_append, List.append_assoc]) <;> exact rfl) | exact (List.append_nil _).symm) (by first | ((try simp only [List.append_nil, List.cons_append, List.nil_append, List.append_assoc]) <;> exact rfl) | exact (List.append_nil _).symm) (by simp) (by simp) (by simp) (by simp [nameds, DV.named, bytes_named, nameds_append, strsD_named, kidsD_named, bstX_named, nodesGX_named, pairsD_named, nameds_append] <;> omega) (by repeat (first | exact allN_nil _ | refine allN_none ?_ | refine allN_some (by first | exact bytes_named _ _ _ _ | (simp [nameds, DV.named, bytes_named, nameds_append, strsD_named, kidsD_named, bstX_named, nodesGX_named, pairsD_named, nameds_append] <;> omega)) ?_)) (by repeat (first | exact allN_nil _ | refine allN_none ?_ | refine allN_some (by first | exact bytes_named _ _ _ _ | (simp [nameds, DV.named, bytes_named, nameds_append, strsD_named, kidsD_named, bstX_named, nodesGX_named, pairsD_named, nameds_append] <;> omega)) ?_)) (by simp)
       repeat (first | exact LeL.nil | refine LeL.cons2 ?_ (Le.undef _) | refine LeL.cons2 ?_ (Le.refl _) | refine LeL.cons2 ?_ (Le.sl _) | refine LeL.cons2 ?_ (Le.eq (by first | rfl | exact congrArg _ (by omega))) | refine LeL.cons2 ?_ (Le.eq ?_))
       all_goals trace_state
      all_goals trace_state
    ·have f9 : decide (((lvN i r - a : Nat) : Int) = 9) = false := decide_eq_false (by omega)
     have f8 : decide (((lvN i r - a : Nat) : Int) > 8) = true := decide_eq_true (by omega)
     repeat' (first | (show Ev _ _ _ _; first | refine Ev_seq ?_ | refine W_reg ?_ | refine Ev_block ?_ | refine W_ifT ?_ | refine W_ifF ?_ | refine W_ifY ?_ | refine Ev_skip ?_) | (show EvD _ _ [] _ _ _; refine W_nil ?_) | (show EvD _ _ (_ :: _) _ _ _; first | refine W_run tok ?_ ?_ (by simp (maxSteps := 1000000) (disch := omega) only [go_sem, wrap_i64_id, ew, f9, f8]; with_reducible exact rfl)) | refine Q_thenN ?_ | fail)
     all_goals (try exact sd)
     all_goals (try refine F_done ?_)
     refine Ev_seedB σ.boxes.length 1 9 1 (by (try simp only [app_get, app_get0, List.getElem?_cons_succ, List.getElem?_cons_zero]) <;> exact rfl) (by (try simp only [List.getElem?_cons_succ, List.getElem?_cons_zero]) <;> exact rfl) (by decide) (by (try simp only [app_len, List.length_cons, List.length_nil, Nat.zero_add, Nat.reduceAdd, app_set, app_set0, List.set_cons_succ, List.set_cons_zero]) <;> exact rfl) (by (try simp only [List.append_assoc, List.cons_append, List.nil_append]) <;> exact rfl) ?_
     refine Ev_seedB σ.boxes.length 2 3 1 (by (try simp only [app_get, app_get0, List.getElem?_cons_succ, List.getElem?_cons_zero]) <;> exact rfl) (by (try simp only [List.getElem?_cons_succ, List.getElem?_cons_zero]) <;> exact rfl) (by decide) (by (try simp only [app_len, List.length_cons, List.length_nil, Nat.zero_add, Nat.reduceAdd, app_set, app_set0, List.set_cons_succ, List.set_cons_zero]) <;> exact rfl) (by (try simp only [List.append_assoc, List.cons_append, List.nil_append]) <;> exact rfl) ?_
     refine Ev_lp (q.length) (fun j => [(15, i64 (sumP i r + a + j : Nat))]) (fun j => ⟨σ.rows ++ [some ⟨bstX P r ++ nodesGX (bst P r).2 g, 42, 3⟩, some ⟨strsD (leastL P r) ++ strsD (keysL (partsG (sumL i r) (bst P r).2 g)), 9, 1⟩, some ⟨strsD (keysG (q.take j)), 9, 1⟩, some ⟨kidsD (kidsG (q.take j)), 3, 1⟩], σ.boxes ++ [some ⟨42, [.slt [], .row (σ.rows.length + 2) (j - 1), .row (σ.rows.length + 3) j]⟩], σ.maps⟩) [88, 89, 90, 91, 92, 93, 94, 95, 96, 97, 98, 99, 100, 101, 102, 103, 104, 105, 106, 107, 108, 109, 110, 111, 112] ?_ (by simp [keysG, kidsG, strsD, kidsD]) (fun j hi => ?_)
     ·exact le1
     by_cases hj' : j < q.length
     ·obtain ⟨hgj, hgs⟩ := hgA j hj'
      have hks := kids_snoc hj'
      rw [hgj] at hks
      have hkl : (kidsG (q.take j)).length = j := by rw [kidsG_len, List.length_take]; omega
      have hyl : (keysG (q.take j)).length = j - 1 := by rw [keysG_len, List.length_take]; omega
      have hkl2 := (kidsD_len (kidsG (q.take j))).trans hkl
      have hyl2 := (strsD_len (keysG (q.take j))).trans hyl
      have hkl' : (kidsG (q.take (j + 1))).length = j + 1 := by rw [kidsG_len, List.length_take]; omega
      have hyl' : (keysG (q.take (j + 1))).length = j := by rw [keysG_len, List.length_take]; omega
      rcases j with _ | j
      ·have hk1 : keysG (q.take (0 + 1)) = [] := keysG_one q
       have hk2 : keysG [] = [] := rfl
       rw [List.take_zero, Nat.add_zero] at hks
       rw [List.take_zero] at hkl hyl hkl2 hyl2
       repeat' (first | (show Ev _ _ _ _; first | refine Ev_seq ?_ | refine W_reg ?_ | refine Ev_block ?_ | refine W_ifY ?_ | refine W_ifN ?_ | refine Ev_skip ?_) | (show EvD _ _ [] _ _ _; refine W_nil ?_) | (show EvD _ _ (_ :: _) _ _ _; first | refine W_run tok ?_ ?_ (by simp (maxSteps := 1000000) (disch := omega) only [go_sem, wrap_i64_id, ew, hks, hkl2]; with_reducible exact rfl)) | refine Q_thenN ?_ | refine Q_blkN ?_ | fail)
       all_goals (try exact sd)
       all_goals (try refine F_done ?_)
       ·refine Q_rndC (Rb := σ.rows) (A := σ.boxes) (Mb := σ.maps) (R := ((fun j => [some ⟨bstX P r ++ nodesGX (bst P r).2 g, 42, 3⟩, some ⟨strsD (leastL P r) ++ strsD (keysL (partsG (sumL i r) (bst P r).2 g)), 9, 1⟩, some ⟨strsD (keysG (q.take j)), 9, 1⟩, some ⟨kidsD (kidsG (q.take j)), 3, 1⟩]) (0))) (R' := ((fun j => [some ⟨bstX P r ++ nodesGX (bst P r).2 g, 42, 3⟩, some ⟨strsD (leastL P r) ++ strsD (keysL (partsG (sumL i r) (bst P r).2 g)), 9, 1⟩, some ⟨strsD (keysG (q.take j)), 9, 1⟩, some ⟨kidsD (kidsG (q.take j)), 3, 1⟩]) (0 + 1))) (B := ((fun j => [some ⟨42, [.slt [], .row (σ.rows.length + 2) (j - 1), .row (σ.rows.length + 3) j]⟩]) (0))) (B' := ((fun j => [some ⟨42, [.slt [], .row (σ.rows.length + 2) (j - 1), .row (σ.rows.length + 3) j]⟩]) (0 + 1))) (M := []) (M' := []) ?_ (by omega) (by first | rfl | simp only [List.append_nil]) (by first | rfl | simp only [List.append_nil]) (by first | ((try simp only [List.append_nil, List.cons_append, List.nil_append, List.append_assoc, hk1, hk2, hks]) <;> exact rfl) | exact (List.append_nil _).symm) (by first | ((try simp only [List.append_nil, List.cons_append, List.nil_append, List.append_assoc, hk1, hk2, hks]) <;> exact rfl) | exact (List.append_nil _).symm) (by first | ((try simp only [List.append_nil, List.cons_append, List.nil_append, List.append_assoc, hk1, hk2, hks]) <;> exact rfl) | exact (List.append_nil _).symm) (by simp) (by simp) (by simp) (by simp [nameds, DV.named, bytes_named, nameds_append, strsD_named, kidsD_named, bstX_named, nodesGX_named, pairsD_named, nameds_append] <;> omega) (by repeat (first | exact allN_nil _ | refine allN_none ?_ | refine allN_some (by first | exact bytes_named _ _ _ _ | (simp [nameds, DV.named, bytes_named, nameds_append, strsD_named, kidsD_named, bstX_named, nodesGX_named, pairsD_named, nameds_append] <;> omega)) ?_)) (by repeat (first | exact allN_nil _ | refine allN_none ?_ | refine allN_some (by first | exact bytes_named _ _ _ _ | (simp [nameds, DV.named, bytes_named, nameds_append, strsD_named, kidsD_named, bstX_named, nodesGX_named, pairsD_named, nameds_append] <;> omega)) ?_)) (by simp)
        repeat (first | exact LeL.nil | refine LeL.cons2 ?_ (Le.undef _) | refine LeL.cons2 ?_ (Le.refl _) | refine LeL.cons2 ?_ (Le.sl _) | refine LeL.cons2 ?_ (Le.eq (by first | rfl | exact congrArg _ (by omega))) | refine LeL.cons2 ?_ (Le.eq ?_))
       all_goals first | (rw [hkl]; exact ⟨rfl, rfl⟩) | exact hkl | exact hkl' | trace_state
      ·have hys := keys_snoc hj'
       repeat' (first | (show Ev _ (.region _ _ true) _ _; refine D_startA [50, 51, 76, 78, 82, 90, 92, 99998, 99997] mix ?_) | (show DrD _ _ _ [] _ _ _ _; refine D_nil ?_; try dsimp only) | (show DrD _ EA _ (_ :: _) _ _ _ _; first | refine D_runLA tok ?_ ?_ (h := by intro R; simp (maxSteps := 1000000) (disch := omega) only [go_sem, wrap_i64_id, ew, hgs, hks, hys, hkl2, hyl2]; with_reducible exact rfl)) | (show DrD _ _ _ (_ :: _) _ _ _ _; first | refine D_store tok ?_ ?_ | refine D_eff tok ?_ ?_ | refine D_hold tok ?_ ?_) | (show Ev _ _ _ _; first | refine Ev_seq ?_ | refine W_reg ?_ | refine Ev_block ?_ | refine W_ifY ?_ | refine Ev_skip ?_) | (show EvD _ _ [] _ _ _; refine W_nil ?_) | (show EvD _ _ (_ :: _) _ _ _; first | refine W_run tok ?_ ?_ (by simp (maxSteps := 1000000) (disch := omega) only [go_sem, wrap_i64_id, ew, hgs, hks, hys, hkl2, hyl2]; with_reducible exact rfl)) | refine Q_thenN ?_ | refine Q_blkN ?_ | fail)
       all_goals (try exact sd)
       all_goals (try refine F_done ?_)
       all_goals (try (first | exact ⟨by omega, by omega, by rw [hgs]; exact Nat.one_pos⟩ | exact ⟨by omega, by omega⟩ | exact ⟨by omega, hyl'⟩ | exact ⟨by omega, hkl'⟩))
       ·refine Q_rndC (Rb := σ.rows) (A := σ.boxes) (Mb := σ.maps) (R := ((fun j => [some ⟨bstX P r ++ nodesGX (bst P r).2 g, 42, 3⟩, some ⟨strsD (leastL P r) ++ strsD (keysL (partsG (sumL i r) (bst P r).2 g)), 9, 1⟩, some ⟨strsD (keysG (q.take j)), 9, 1⟩, some ⟨kidsD (kidsG (q.take j)), 3, 1⟩]) (j + 1))) (R' := ((fun j => [some ⟨bstX P r ++ nodesGX (bst P r).2 g, 42, 3⟩, some ⟨strsD (leastL P r) ++ strsD (keysL (partsG (sumL i r) (bst P r).2 g)), 9, 1⟩, some ⟨strsD (keysG (q.take j)), 9, 1⟩, some ⟨kidsD (kidsG (q.take j)), 3, 1⟩]) (j + 1 + 1))) (B := ((fun j => [some ⟨42, [.slt [], .row (σ.rows.length + 2) (j - 1), .row (σ.rows.length + 3) j]⟩]) (j + 1))) (B' := ((fun j => [some ⟨42, [.slt [], .row (σ.rows.length + 2) (j - 1), .row (σ.rows.length + 3) j]⟩]) (j + 1 + 1))) (M := []) (M' := []) ?_ (by omega) (by first | rfl | simp only [List.append_nil]) (by first | rfl | simp only [List.append_nil]) (by first | ((try simp only [List.append_nil, List.cons_append, List.nil_append, List.append_assoc]) <;> exact rfl) | exact (List.append_nil _).symm) (by first | ((try simp only [List.append_nil, List.cons_append, List.nil_append, List.append_assoc]) <;> exact rfl) | exact (List.append_nil _).symm) (by first | ((try simp only [List.append_nil, List.cons_append, List.nil_append, List.append_assoc]) <;> exact rfl) | exact (List.append_nil _).symm) (by simp) (by simp) (by simp) (by simp [nameds, DV.named, bytes_named, nameds_append, strsD_named, kidsD_named, bstX_named, nodesGX_named, pairsD_named, nameds_append] <;> omega) (by repeat (first | exact allN_nil _ | refine allN_none ?_ | refine allN_some (by first | exact bytes_named _ _ _ _ | (simp [nameds, DV.named, bytes_named, nameds_append, strsD_named, kidsD_named, bstX_named, nodesGX_named, pairsD_named, nameds_append] <;> omega)) ?_)) (by repeat (first | exact allN_nil _ | refine allN_none ?_ | refine allN_some (by first | exact bytes_named _ _ _ _ | (simp [nameds, DV.named, bytes_named, nameds_append, strsD_named, kidsD_named, bstX_named, nodesGX_named, pairsD_named, nameds_append] <;> omega)) ?_)) (by simp)
        repeat (first | exact LeL.nil | refine LeL.cons2 ?_ (Le.undef _) | refine LeL.cons2 ?_ (Le.refl _) | refine LeL.cons2 ?_ (Le.sl _) | refine LeL.cons2 ?_ (Le.eq (by first | rfl | exact congrArg _ (by omega))) | refine LeL.cons2 ?_ (Le.eq ?_))
       all_goals first | exact ⟨by omega, hyl'⟩ | exact ⟨by omega, hkl'⟩ | trace_state
     ·obtain rfl : j = q.length := by omega
      rw [List.take_length]
      have hkl2 := (kidsD_len (kidsG q)).trans (kidsG_len q)
      have hyl2 := (strsD_len (keysG q)).trans (keysG_len q)
      refine W_frzC (σ.rows.length + 2) ?_ (hs := by simp (disch := omega) only [hyl2, frzAt, frzAtL, if_pos, if_neg, and_self, if_true]; exact rfl) (hB := by simp (disch := omega) only [frzBox, List.map_cons, List.map_nil, hyl2, frzAt, frzAtL, if_pos, if_neg, and_self, if_true]; exact rfl)
      refine W_frzC (σ.rows.length + 3) ?_ (hs := by simp (disch := omega) only [hkl2, frzAt, frzAtL, if_pos, if_neg, and_self, if_true]; exact rfl) (hB := by simp (disch := omega) only [frzBox, List.map_cons, List.map_nil, hkl2, frzAt, frzAtL, if_pos, if_neg, and_self, if_true]; exact rfl)
      have hgz := (hgA 0 (by omega)).2
      rw [Nat.add_zero] at hgz
      repeat' (first | (show Ev _ _ _ _; first | refine Ev_seq ?_ | refine W_reg ?_ | refine W_ifN ?_ | refine Ev_exit ?_) | (show EvD _ _ [] _ _ _; refine W_nil ?_) | (show EvD _ _ (_ :: _) _ _ _; first | refine W_run tok ?_ ?_ (by simp (maxSteps := 1000000) (disch := omega) only [go_sem, wrap_i64_id, ew, hgz, hsn1, hsn2]; with_reducible exact rfl)) | refine Q_thenN ?_ | refine Q_thenE ?_ | refine Q_blkN ?_ | refine Q_blkE ?_ | refine Q_rndE ?_ | fail)
      all_goals (try exact sd)
      all_goals (try refine F_done ?_)
      ·refine Q_rndC (Rb := σ.rows) (A := σ.boxes) (Mb := σ.maps) (R := ((fun g => [some ⟨bstX P r ++ nodesGX (bst P r).2 g, 42, 3⟩, some ⟨strsD (leastL P r) ++ strsD (keysL (partsG (sumL i r) (bst P r).2 g)), 9, 1⟩]) (g))) (R' := ((fun g => [some ⟨bstX P r ++ nodesGX (bst P r).2 g, 42, 3⟩, some ⟨strsD (leastL P r) ++ strsD (keysL (partsG (sumL i r) (bst P r).2 g)), 9, 1⟩]) (g + 1))) (B := []) (B' := []) (M := []) (M' := []) ?_ (by omega) (by first | rfl | simp only [List.append_nil]) (by first | rfl | simp only [List.append_nil]) (by first | ((try simp only [List.append_nil, List.cons_append, List.nil_append, List.append_assoc]) <;> exact rfl) | exact (List.append_nil _).symm) (by first | ((try simp only [List.append_nil, List.cons_append, List.nil_append, List.append_assoc]) <;> exact rfl) | exact (List.append_nil _).symm) (by first | ((try simp only [List.append_nil, List.cons_append, List.nil_append, List.append_assoc]) <;> exact rfl) | exact (List.append_nil _).symm) (by simp) (by simp) (by simp) (by simp [nameds, DV.named, bytes_named, nameds_append, strsD_named, kidsD_named, bstX_named, nodesGX_named, pairsD_named, nameds_append] <;> omega) (by repeat (first | exact allN_nil _ | refine allN_none ?_ | refine allN_some (by first | exact bytes_named _ _ _ _ | (simp [nameds, DV.named, bytes_named, nameds_append, strsD_named, kidsD_named, bstX_named, nodesGX_named, pairsD_named, nameds_append] <;> omega)) ?_)) (by repeat (first | exact allN_nil _ | refine allN_none ?_ | refine allN_some (by first | exact bytes_named _ _ _ _ | (simp [nameds, DV.named, bytes_named, nameds_append, strsD_named, kidsD_named, bstX_named, nodesGX_named, pairsD_named, nameds_append] <;> omega)) ?_)) (by simp)
       repeat (first | exact LeL.nil | refine LeL.cons2 ?_ (Le.undef _) | refine LeL.cons2 ?_ (Le.refl _) | refine LeL.cons2 ?_ (Le.sl _) | refine LeL.cons2 ?_ (Le.eq (by first | rfl | exact congrArg _ (by omega))) | refine LeL.cons2 ?_ (Le.eq ?_))
       all_goals trace_state
      all_goals trace_state
    ·have f9 : decide (((lvN i r - a : Nat) : Int) = 9) = false := decide_eq_false (by omega)
     have f8 : decide (((lvN i r - a : Nat) : Int) > 8) = false := decide_eq_false (by omega)
     repeat' (first | (show Ev _ _ _ _; first | refine Ev_seq ?_ | refine W_reg ?_ | refine Ev_block ?_ | refine W_ifF ?_ | refine W_ifY ?_ | refine Ev_skip ?_) | (show EvD _ _ [] _ _ _; refine W_nil ?_) | (show EvD _ _ (_ :: _) _ _ _; first | refine W_run tok ?_ ?_ (by simp (maxSteps := 1000000) (disch := omega) only [go_sem, wrap_i64_id, ew, f9, f8]; with_reducible exact rfl)) | refine Q_thenN ?_ | fail)
     all_goals (try exact sd)
     all_goals (try refine F_done ?_)
     refine Ev_seedB σ.boxes.length 1 9 1 (by (try simp only [app_get, app_get0, List.getElem?_cons_succ, List.getElem?_cons_zero]) <;> exact rfl) (by (try simp only [List.getElem?_cons_succ, List.getElem?_cons_zero]) <;> exact rfl) (by decide) (by (try simp only [app_len, List.length_cons, List.length_nil, Nat.zero_add, Nat.reduceAdd, app_set, app_set0, List.set_cons_succ, List.set_cons_zero]) <;> exact rfl) (by (try simp only [List.append_assoc, List.cons_append, List.nil_append]) <;> exact rfl) ?_
     refine Ev_seedB σ.boxes.length 2 3 1 (by (try simp only [app_get, app_get0, List.getElem?_cons_succ, List.getElem?_cons_zero]) <;> exact rfl) (by (try simp only [List.getElem?_cons_succ, List.getElem?_cons_zero]) <;> exact rfl) (by decide) (by (try simp only [app_len, List.length_cons, List.length_nil, Nat.zero_add, Nat.reduceAdd, app_set, app_set0, List.set_cons_succ, List.set_cons_zero]) <;> exact rfl) (by (try simp only [List.append_assoc, List.cons_append, List.nil_append]) <;> exact rfl) ?_
     refine Ev_lp (q.length) (fun j => [(15, i64 (sumP i r + a + j : Nat))]) (fun j => ⟨σ.rows ++ [some ⟨bstX P r ++ nodesGX (bst P r).2 g, 42, 3⟩, some ⟨strsD (leastL P r) ++ strsD (keysL (partsG (sumL i r) (bst P r).2 g)), 9, 1⟩, some ⟨strsD (keysG (q.take j)), 9, 1⟩, some ⟨kidsD (kidsG (q.take j)), 3, 1⟩], σ.boxes ++ [some ⟨42, [.slt [], .row (σ.rows.length + 2) (j - 1), .row (σ.rows.length + 3) j]⟩], σ.maps⟩) [88, 89, 90, 91, 92, 93, 94, 95, 96, 97, 98, 99, 100, 101, 102, 103, 104, 105, 106, 107, 108, 109, 110, 111, 112] ?_ (by simp [keysG, kidsG, strsD, kidsD]) (fun j hi => ?_)
     ·exact le1
     by_cases hj' : j < q.length
     ·obtain ⟨hgj, hgs⟩ := hgA j hj'
      have hks := kids_snoc hj'
      rw [hgj] at hks
      have hkl : (kidsG (q.take j)).length = j := by rw [kidsG_len, List.length_take]; omega
      have hyl : (keysG (q.take j)).length = j - 1 := by rw [keysG_len, List.length_take]; omega
      have hkl2 := (kidsD_len (kidsG (q.take j))).trans hkl
      have hyl2 := (strsD_len (keysG (q.take j))).trans hyl
      have hkl' : (kidsG (q.take (j + 1))).length = j + 1 := by rw [kidsG_len, List.length_take]; omega
      have hyl' : (keysG (q.take (j + 1))).length = j := by rw [keysG_len, List.length_take]; omega
      rcases j with _ | j
      ·have hk1 : keysG (q.take (0 + 1)) = [] := keysG_one q
       have hk2 : keysG [] = [] := rfl
       rw [List.take_zero, Nat.add_zero] at hks
       rw [List.take_zero] at hkl hyl hkl2 hyl2
       repeat' (first | (show Ev _ _ _ _; first | refine Ev_seq ?_ | refine W_reg ?_ | refine Ev_block ?_ | refine W_ifY ?_ | refine W_ifN ?_ | refine Ev_skip ?_) | (show EvD _ _ [] _ _ _; refine W_nil ?_) | (show EvD _ _ (_ :: _) _ _ _; first | refine W_run tok ?_ ?_ (by simp (maxSteps := 1000000) (disch := omega) only [go_sem, wrap_i64_id, ew, hks, hkl2]; with_reducible exact rfl)) | refine Q_thenN ?_ | refine Q_blkN ?_ | fail)
       all_goals (try exact sd)
       all_goals (try refine F_done ?_)
       ·refine Q_rndC (Rb := σ.rows) (A := σ.boxes) (Mb := σ.maps) (R := ((fun j => [some ⟨bstX P r ++ nodesGX (bst P r).2 g, 42, 3⟩, some ⟨strsD (leastL P r) ++ strsD (keysL (partsG (sumL i r) (bst P r).2 g)), 9, 1⟩, some ⟨strsD (keysG (q.take j)), 9, 1⟩, some ⟨kidsD (kidsG (q.take j)), 3, 1⟩]) (0))) (R' := ((fun j => [some ⟨bstX P r ++ nodesGX (bst P r).2 g, 42, 3⟩, some ⟨strsD (leastL P r) ++ strsD (keysL (partsG (sumL i r) (bst P r).2 g)), 9, 1⟩, some ⟨strsD (keysG (q.take j)), 9, 1⟩, some ⟨kidsD (kidsG (q.take j)), 3, 1⟩]) (0 + 1))) (B := ((fun j => [some ⟨42, [.slt [], .row (σ.rows.length + 2) (j - 1), .row (σ.rows.length + 3) j]⟩]) (0))) (B' := ((fun j => [some ⟨42, [.slt [], .row (σ.rows.length + 2) (j - 1), .row (σ.rows.length + 3) j]⟩]) (0 + 1))) (M := []) (M' := []) ?_ (by omega) (by first | rfl | simp only [List.append_nil]) (by first | rfl | simp only [List.append_nil]) (by first | ((try simp only [List.append_nil, List.cons_append, List.nil_append, List.append_assoc, hk1, hk2, hks]) <;> exact rfl) | exact (List.append_nil _).symm) (by first | ((try simp only [List.append_nil, List.cons_append, List.nil_append, List.append_assoc, hk1, hk2, hks]) <;> exact rfl) | exact (List.append_nil _).symm) (by first | ((try simp only [List.append_nil, List.cons_append, List.nil_append, List.append_assoc, hk1, hk2, hks]) <;> exact rfl) | exact (List.append_nil _).symm) (by simp) (by simp) (by simp) (by simp [nameds, DV.named, bytes_named, nameds_append, strsD_named, kidsD_named, bstX_named, nodesGX_named, pairsD_named, nameds_append] <;> omega) (by repeat (first | exact allN_nil _ | refine allN_none ?_ | refine allN_some (by first | exact bytes_named _ _ _ _ | (simp [nameds, DV.named, bytes_named, nameds_append, strsD_named, kidsD_named, bstX_named, nodesGX_named, pairsD_named, nameds_append] <;> omega)) ?_)) (by repeat (first | exact allN_nil _ | refine allN_none ?_ | refine allN_some (by first | exact bytes_named _ _ _ _ | (simp [nameds, DV.named, bytes_named, nameds_append, strsD_named, kidsD_named, bstX_named, nodesGX_named, pairsD_named, nameds_append] <;> omega)) ?_)) (by simp)
        repeat (first | exact LeL.nil | refine LeL.cons2 ?_ (Le.undef _) | refine LeL.cons2 ?_ (Le.refl _) | refine LeL.cons2 ?_ (Le.sl _) | refine LeL.cons2 ?_ (Le.eq (by first | rfl | exact congrArg _ (by omega))) | refine LeL.cons2 ?_ (Le.eq ?_))
       all_goals first | (rw [hkl]; exact ⟨rfl, rfl⟩) | exact hkl | exact hkl' | trace_state
      ·have hys := keys_snoc hj'
       repeat' (first | (show Ev _ (.region _ _ true) _ _; refine D_startA [50, 51, 76, 78, 82, 90, 92, 99998, 99997] mix ?_) | (show DrD _ _ _ [] _ _ _ _; refine D_nil ?_; try dsimp only) | (show DrD _ EA _ (_ :: _) _ _ _ _; first | refine D_runLA tok ?_ ?_ (h := by intro R; simp (maxSteps := 1000000) (disch := omega) only [go_sem, wrap_i64_id, ew, hgs, hks, hys, hkl2, hyl2]; with_reducible exact rfl)) | (show DrD _ _ _ (_ :: _) _ _ _ _; first | refine D_store tok ?_ ?_ | refine D_eff tok ?_ ?_ | refine D_hold tok ?_ ?_) | (show Ev _ _ _ _; first | refine Ev_seq ?_ | refine W_reg ?_ | refine Ev_block ?_ | refine W_ifY ?_ | refine Ev_skip ?_) | (show EvD _ _ [] _ _ _; refine W_nil ?_) | (show EvD _ _ (_ :: _) _ _ _; first | refine W_run tok ?_ ?_ (by simp (maxSteps := 1000000) (disch := omega) only [go_sem, wrap_i64_id, ew, hgs, hks, hys, hkl2, hyl2]; with_reducible exact rfl)) | refine Q_thenN ?_ | refine Q_blkN ?_ | fail)
       all_goals (try exact sd)
       all_goals (try refine F_done ?_)
       all_goals (try (first | exact ⟨by omega, by omega, by rw [hgs]; exact Nat.one_pos⟩ | exact ⟨by omega, by omega⟩ | exact ⟨by omega, hyl'⟩ | exact ⟨by omega, hkl'⟩))
       ·refine Q_rndC (Rb := σ.rows) (A := σ.boxes) (Mb := σ.maps) (R := ((fun j => [some ⟨bstX P r ++ nodesGX (bst P r).2 g, 42, 3⟩, some ⟨strsD (leastL P r) ++ strsD (keysL (partsG (sumL i r) (bst P r).2 g)), 9, 1⟩, some ⟨strsD (keysG (q.take j)), 9, 1⟩, some ⟨kidsD (kidsG (q.take j)), 3, 1⟩]) (j + 1))) (R' := ((fun j => [some ⟨bstX P r ++ nodesGX (bst P r).2 g, 42, 3⟩, some ⟨strsD (leastL P r) ++ strsD (keysL (partsG (sumL i r) (bst P r).2 g)), 9, 1⟩, some ⟨strsD (keysG (q.take j)), 9, 1⟩, some ⟨kidsD (kidsG (q.take j)), 3, 1⟩]) (j + 1 + 1))) (B := ((fun j => [some ⟨42, [.slt [], .row (σ.rows.length + 2) (j - 1), .row (σ.rows.length + 3) j]⟩]) (j + 1))) (B' := ((fun j => [some ⟨42, [.slt [], .row (σ.rows.length + 2) (j - 1), .row (σ.rows.length + 3) j]⟩]) (j + 1 + 1))) (M := []) (M' := []) ?_ (by omega) (by first | rfl | simp only [List.append_nil]) (by first | rfl | simp only [List.append_nil]) (by first | ((try simp only [List.append_nil, List.cons_append, List.nil_append, List.append_assoc]) <;> exact rfl) | exact (List.append_nil _).symm) (by first | ((try simp only [List.append_nil, List.cons_append, List.nil_append, List.append_assoc]) <;> exact rfl) | exact (List.append_nil _).symm) (by first | ((try simp only [List.append_nil, List.cons_append, List.nil_append, List.append_assoc]) <;> exact rfl) | exact (List.append_nil _).symm) (by simp) (by simp) (by simp) (by simp [nameds, DV.named, bytes_named, nameds_append, strsD_named, kidsD_named, bstX_named, nodesGX_named, pairsD_named, nameds_append] <;> omega) (by repeat (first | exact allN_nil _ | refine allN_none ?_ | refine allN_some (by first | exact bytes_named _ _ _ _ | (simp [nameds, DV.named, bytes_named, nameds_append, strsD_named, kidsD_named, bstX_named, nodesGX_named, pairsD_named, nameds_append] <;> omega)) ?_)) (by repeat (first | exact allN_nil _ | refine allN_none ?_ | refine allN_some (by first | exact bytes_named _ _ _ _ | (simp [nameds, DV.named, bytes_named, nameds_append, strsD_named, kidsD_named, bstX_named, nodesGX_named, pairsD_named, nameds_append] <;> omega)) ?_)) (by simp)
        repeat (first | exact LeL.nil | refine LeL.cons2 ?_ (Le.undef _) | refine LeL.cons2 ?_ (Le.refl _) | refine LeL.cons2 ?_ (Le.sl _) | refine LeL.cons2 ?_ (Le.eq (by first | rfl | exact congrArg _ (by omega))) | refine LeL.cons2 ?_ (Le.eq ?_))
       all_goals first | exact ⟨by omega, hyl'⟩ | exact ⟨by omega, hkl'⟩ | trace_state
     ·obtain rfl : j = q.length := by omega
      rw [List.take_length]
      have hkl2 := (kidsD_len (kidsG q)).trans (kidsG_len q)
      have hyl2 := (strsD_len (keysG q)).trans (keysG_len q)
      refine W_frzC (σ.rows.length + 2) ?_ (hs := by simp (disch := omega) only [hyl2, frzAt, frzAtL, if_pos, if_neg, and_self, if_true]; exact rfl) (hB := by simp (disch := omega) only [frzBox, List.map_cons, List.map_nil, hyl2, frzAt, frzAtL, if_pos, if_neg, and_self, if_true]; exact rfl)
      refine W_frzC (σ.rows.length + 3) ?_ (hs := by simp (disch := omega) only [hkl2, frzAt, frzAtL, if_pos, if_neg, and_self, if_true]; exact rfl) (hB := by simp (disch := omega) only [frzBox, List.map_cons, List.map_nil, hkl2, frzAt, frzAtL, if_pos, if_neg, and_self, if_true]; exact rfl)
      have hgz := (hgA 0 (by omega)).2
      rw [Nat.add_zero] at hgz
      repeat' (first | (show Ev _ _ _ _; first | refine Ev_seq ?_ | refine W_reg ?_ | refine W_ifN ?_ | refine Ev_exit ?_) | (show EvD _ _ [] _ _ _; refine W_nil ?_) | (show EvD _ _ (_ :: _) _ _ _; first | refine W_run tok ?_ ?_ (by simp (maxSteps := 1000000) (disch := omega) only [go_sem, wrap_i64_id, ew, hgz, hsn1, hsn2]; with_reducible exact rfl)) | refine Q_thenN ?_ | refine Q_thenE ?_ | refine Q_blkN ?_ | refine Q_blkE ?_ | refine Q_rndE ?_ | fail)
      all_goals (try exact sd)
      all_goals (try refine F_done ?_)
      ·refine Q_rndC (Rb := σ.rows) (A := σ.boxes) (Mb := σ.maps) (R := ((fun g => [some ⟨bstX P r ++ nodesGX (bst P r).2 g, 42, 3⟩, some ⟨strsD (leastL P r) ++ strsD (keysL (partsG (sumL i r) (bst P r).2 g)), 9, 1⟩]) (g))) (R' := ((fun g => [some ⟨bstX P r ++ nodesGX (bst P r).2 g, 42, 3⟩, some ⟨strsD (leastL P r) ++ strsD (keysL (partsG (sumL i r) (bst P r).2 g)), 9, 1⟩]) (g + 1))) (B := []) (B' := []) (M := []) (M' := []) ?_ (by omega) (by first | rfl | simp only [List.append_nil]) (by first | rfl | simp only [List.append_nil]) (by first | ((try simp only [List.append_nil, List.cons_append, List.nil_append, List.append_assoc]) <;> exact rfl) | exact (List.append_nil _).symm) (by first | ((try simp only [List.append_nil, List.cons_append, List.nil_append, List.append_assoc]) <;> exact rfl) | exact (List.append_nil _).symm) (by first | ((try simp only [List.append_nil, List.cons_append, List.nil_append, List.append_assoc]) <;> exact rfl) | exact (List.append_nil _).symm) (by simp) (by simp) (by simp) (by simp [nameds, DV.named, bytes_named, nameds_append, strsD_named, kidsD_named, bstX_named, nodesGX_named, pairsD_named, nameds_append] <;> omega) (by repeat (first | exact allN_nil _ | refine allN_none ?_ | refine allN_some (by first | exact bytes_named _ _ _ _ | (simp [nameds, DV.named, bytes_named, nameds_append, strsD_named, kidsD_named, bstX_named, nodesGX_named, pairsD_named, nameds_append] <;> omega)) ?_)) (by repeat (first | exact allN_nil _ | refine allN_none ?_ | refine allN_some (by first | exact bytes_named _ _ _ _ | (simp [nameds, DV.named, bytes_named, nameds_append, strsD_named, kidsD_named, bstX_named, nodesGX_named, pairsD_named, nameds_append] <;> omega)) ?_)) (by simp)
       repeat (first | exact LeL.nil | refine LeL.cons2 ?_ (Le.undef _) | refine LeL.cons2 ?_ (Le.refl _) | refine LeL.cons2 ?_ (Le.sl _) | refine LeL.cons2 ?_ (Le.eq (by first | rfl | exact congrArg _ (by omega))) | refine LeL.cons2 ?_ (Le.eq ?_))
       all_goals trace_state
      all_goals trace_state
   ·obtain rfl : g = k := by omega
    have hz0 : stG (lvN i r) g = lvN i r := stG_end (by rw [hk]; unfold pcM; omega)
    have hz1 : bstX P (r + 1) = bstX P r ++ nodesGX (bst P r).2 g := by
     show _ ++ nodesGX _ (pcM (bst P r).2.length 8) = _
     rw [hlv, ← hk]
    have hal : (bst P r).1.length = sumL i r := by rw [bst_all, hmn]
    have hz2 : strsD (leastL P (r + 1)) = strsD (leastL P r) ++ strsD (keysL (partsG (sumL i r) (bst P r).2 g)) := by
     have : (bst P (r + 1)).2 = partsG (sumL i r) (bst P r).2 g := by
      show partsG (bst P r).1.length _ (pcM (bst P r).2.length 8) = _
      rw [hlv, hal, ← hk]
     rw [leastL, this, strsD, List.map_append]; rfl
    have hz3 : sumL i (r + 1) = sumL i r + g := by
     show _ + lvN i (r + 1) = _
     rw [hk]; rfl
    rw [hz0]
    repeat' (first | (show Ev _ _ _ _; first | refine Ev_seq ?_ | refine W_reg ?_ | refine W_ifN ?_ | refine Ev_exit ?_) | (show EvD _ _ [] _ _ _; refine W_nil ?_) | (show EvD _ _ (_ :: _) _ _ _; first | refine W_run tok ?_ ?_ (by simp (maxSteps := 1000000) (disch := omega) only [go_sem, wrap_i64_id]; with_reducible exact rfl)) | refine Q_thenN ?_ | refine Q_thenE ?_ | refine Q_blkN ?_ | refine Q_blkE ?_ | refine Q_rndE ?_ | fail)
    all_goals (try exact sd)
    all_goals (try refine F_done ?_)
    ·refine Q_rndC (Rb := σ.rows) (A := σ.boxes) (Mb := σ.maps) (R := ((fun r => [some ⟨bstX P r, 42, 3⟩, some ⟨strsD (leastL P r), 9, 1⟩]) (r))) (R' := ((fun r => [some ⟨bstX P r, 42, 3⟩, some ⟨strsD (leastL P r), 9, 1⟩]) (r + 1))) (B := []) (B' := []) (M := []) (M' := []) ?_ (by omega) (by first | rfl | simp only [List.append_nil]) (by first | rfl | simp only [List.append_nil]) (by first | ((try simp only [List.append_nil, List.cons_append, List.nil_append, List.append_assoc, hz1, hz2]) <;> exact rfl) | exact (List.append_nil _).symm) (by first | ((try simp only [List.append_nil, List.cons_append, List.nil_append, List.append_assoc, hz1, hz2]) <;> exact rfl) | exact (List.append_nil _).symm) (by first | ((try simp only [List.append_nil, List.cons_append, List.nil_append, List.append_assoc, hz1, hz2]) <;> exact rfl) | exact (List.append_nil _).symm) (by simp) (by simp) (by simp) (by simp [nameds, DV.named, bytes_named, nameds_append, strsD_named, bstX_named, nodesGX_named, pairsD_named, nameds_append] <;> omega) (by repeat (first | exact allN_nil _ | refine allN_none ?_ | refine allN_some (by first | exact bytes_named _ _ _ _ | (simp [nameds, DV.named, bytes_named, nameds_append, strsD_named, bstX_named, nodesGX_named, pairsD_named, nameds_append] <;> omega)) ?_)) (by repeat (first | exact allN_nil _ | refine allN_none ?_ | refine allN_some (by first | exact bytes_named _ _ _ _ | (simp [nameds, DV.named, bytes_named, nameds_append, strsD_named, bstX_named, nodesGX_named, pairsD_named, nameds_append] <;> omega)) ?_)) (by simp)
     repeat (first | exact LeL.nil | refine LeL.cons2 ?_ (Le.undef _) | refine LeL.cons2 ?_ (Le.refl _) | refine LeL.cons2 ?_ (Le.sl _) | refine LeL.cons2 ?_ (Le.eq (by first | rfl | exact congrArg _ (by omega))) | refine LeL.cons2 ?_ (Le.eq ?_))
     all_goals first | rw [hz3] | rw [hsS] | trace_state
    all_goals trace_state
  ·obtain rfl : r = R := by omega
   repeat' (first | (show Ev _ _ _ _; first | refine Ev_seq ?_ | refine W_reg ?_ | refine W_ifN ?_ | refine Ev_exit ?_ | refine Ev_ret ?_) | (show EvD _ _ [] _ _ _; refine W_nil ?_) | (show EvD _ _ (_ :: _) _ _ _; first | refine W_run tok ?_ ?_ (by simp (maxSteps := 1000000) (disch := omega) only [go_sem, wrap_i64_id]; with_reducible exact rfl)) | (show RetQ _ _ (RP _ _) _ _; refine R_ret ?_ ?_) | (show FrzTo _ _ _ _; refine F_row ?_) | refine Q_thenN ?_ | refine Q_thenE ?_ | refine Q_blkE ?_ | refine Q_rndE ?_ | fail)
   all_goals (try exact sd)
   all_goals (try refine F_done ?_)
   all_goals rfl
instance i_bursarref09_Build (P : List PairB) : Con Try.prog 14 [.sl (pairsD P)] (P.length ≤ 3000) (.tup [.sl (bldY P).1, .int .i64 (bldY P).2]) := ⟨c_bursarref09_Build P ⟩
instance ib_bursarref09_Build (P : List PairB) : Con Try.prog 14 [.sl (pairsD P)] (P.length ≤ 3000) (.tup [.sl (nodesD (bldR P).1), .int .i64 (bldR P).2]) := ⟨fun h => Pure_ans (c_bursarref09_Build P h) (bldY_le P)⟩
instance ib_tree_Build (P : List PairB) : Con Try.prog 13 [.sl (pairsD P)] (P.length ≤ 3000) (.tup [.sl (nodesD (bldR P).1), .int .i64 (bldR P).2]) := ⟨fun h => Pure_ans (c_tree_Build P h) (bldX_le P)⟩
end Go.Val.Ytgjmpefhjdgkoaa
