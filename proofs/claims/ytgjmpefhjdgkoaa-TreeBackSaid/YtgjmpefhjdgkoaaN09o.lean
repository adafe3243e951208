/- Chapter 09: lists compared, walked. -/
import Derived.Test.YtgjmpefhjdgkoaaN09j
namespace Go.Val.Ytgjmpefhjdgkoaa
open Go Go.Val Go.Proofs Go.Proofs.Ytgjmpefhjdgkoaa
attribute [local irreducible] Ev EvD EvC thenQ blockQ RoundG RetQ
set_option maxRecDepth 100000
set_option maxHeartbeats 4000000
set_option linter.unusedSimpArgs false
set_option linter.unusedVariables false
theorem c_slices_Equal_s_int_int (C D : List Int) (hC : C.length < 1099511627776 ∧ D.length < 1099511627776) : Pure Try.prog n_slices_Equal_s_int_int [.sl (kidsD C), .sl (kidsD D)] (.bool (decide (C = D))) := by
 refine Pure.go tok (rs := [.tmp 4]) [.sl (kidsD C), .sl (kidsD D), .undef, .undef, .undef, .undef, .undef, .undef, .undef, .undef, .undef, .undef, .undef, .undef, .undef, .undef, .undef, .undef, .undef, .undef, .undef, .undef, .undef, .undef, .undef, .undef] Try.func89 (fun σ => ?_)
 have hsC := kidsD_len C
 have hsD := kidsD_len D
 by_cases l : C.length = D.length
 ·have d1 : decide ((C.length : Int) = (D.length : Int)) = true := decide_eq_true (by omega)
  obtain ⟨m, hm, hgood, hbad, hall⟩ := firstBad C.length (fun i => decide (C.getD i 0 = D.getD i 0))
  rw [all_eq _ l] at hall
  rw [hall]
  repeat' (first | (show Ev _ _ _ _; first | refine Ev_seq ?_ | refine W_reg ?_ | refine Ev_block ?_ | refine W_ifF ?_ | refine Ev_skip ?_) | (show EvD _ _ [] _ _ _; refine W_nil ?_) | (show EvD _ _ (_ :: _) _ _ _; first | refine W_run tok ?_ ?_ (by simp (maxSteps := 1000000) (disch := omega) only [go_sem, wrap_i64_id, d1]; with_reducible exact rfl)) | refine Q_thenN ?_ | fail)
  all_goals (try exact sd)
  all_goals (try refine F_done ?_)
  refine Ev_lp (m) (fun i => [(13, i64 i)]) (fun i => σ) [4, 5, 14, 15, 16, 17, 18, 19, 20, 21, 22, 23, 24, 25] ?_ (by first | rfl | (simp only [List.take_zero, List.append_nil]; done)) (fun i hi => ?_)
  ·exact le1
  by_cases hi' : i < m
  ·have g1 := kidsD_get (C := C) (i := i) (by omega)
   have g2 := kidsD_get (C := D) (i := i) (by omega)
   have hd := hgood i hi'
   simp only [decide_eq_true_eq] at hd
   rw [← hd] at g2
   repeat' (first | (show Ev _ (.region _ _ true) _ _; refine D_start [50, 51, 76, 78, 82, 90, 92] mix ?_) | (show DrD _ _ _ [] _ _ _ _; refine D_nil ?_; try dsimp only) | (show DrD _ (EB _ _) _ (_ :: _) _ _ _ _; first | refine D_runL tok ?_ ?_ (h := by intro R; simp (maxSteps := 1000000) (disch := omega) only [go_sem, wrap_i64_id, g1, g2]; with_reducible exact rfl)) | (show Ev _ _ _ _; first | refine Ev_seq ?_ | refine W_reg ?_ | refine Ev_block ?_ | refine W_ifF ?_ | refine W_ifY ?_ | refine Ev_skip ?_) | (show EvD _ _ [] _ _ _; refine W_nil ?_) | (show EvD _ _ (_ :: _) _ _ _; first | refine W_run tok ?_ ?_ (by simp (maxSteps := 1000000) (disch := omega) only [go_sem, wrap_i64_id, g1, g2]; with_reducible exact rfl)) | refine Q_thenN ?_ | refine Q_blkN ?_ | fail)
   all_goals (try exact sd)
   all_goals (try refine F_done ?_)
   refine Q_rndN ?_ (by omega) ?_
   rotate_left
   ·rfl
   repeat (first | exact LeL.nil | refine LeL.cons2 ?_ (Le.undef _) | refine LeL.cons2 ?_ (Le.refl _) | refine LeL.cons2 ?_ (Le.sl _) | refine LeL.cons2 ?_ (Le.eq (by first | rfl | exact congrArg _ (by omega))) | refine LeL.cons2 ?_ (Le.eq ?_))
   all_goals trace_state
  ·obtain rfl : i = m := by omega
   by_cases hl : i < C.length
   ·have g1 := kidsD_get (C := C) (i := i) (by omega)
    have g2 := kidsD_get (C := D) (i := i) (by omega)
    have hd := hbad hl
    rw [decide_eq_false (by omega : ¬ i = C.length)]
    repeat' (first | (show Ev _ (.region _ _ true) _ _; refine D_start [50, 51, 76, 78, 82, 90, 92] mix ?_) | (show DrD _ _ _ [] _ _ _ _; refine D_nil ?_; try dsimp only) | (show DrD _ (EB _ _) _ (_ :: _) _ _ _ _; first | refine D_runL tok ?_ ?_ (h := by intro R; simp (maxSteps := 1000000) (disch := omega) only [go_sem, wrap_i64_id, g1, g2, hd]; with_reducible exact rfl)) | (show Ev _ _ _ _; first | refine Ev_seq ?_ | refine W_reg ?_ | refine Ev_block ?_ | refine W_ifT ?_ | refine W_ifY ?_ | refine Ev_skip ?_ | refine Ev_ret ?_) | (show EvD _ _ [] _ _ _; refine W_nil ?_) | (show EvD _ _ (_ :: _) _ _ _; first | refine W_run tok ?_ ?_ (by simp (maxSteps := 1000000) (disch := omega) only [go_sem, wrap_i64_id, g1, g2, hd]; with_reducible exact rfl)) | (show RetQ _ _ (RP _ _) _ _; refine R_ret ?_ ?_) | refine Q_thenN ?_ | refine Q_thenR ?_ | refine Q_blkR ?_ | refine Q_rndR ?_ | fail)
    all_goals (try exact sd)
    all_goals (try refine F_done ?_)
    all_goals first | rfl | trace_state
   ·rw [decide_eq_true (by omega : i = C.length)]
    repeat' (first | (show Ev _ _ _ _; first | refine Ev_seq ?_ | refine W_reg ?_ | refine W_ifN ?_ | refine Ev_exit ?_ | refine Ev_ret ?_) | (show EvD _ _ [] _ _ _; refine W_nil ?_) | (show EvD _ _ (_ :: _) _ _ _; first | refine W_run tok ?_ ?_ (by simp (maxSteps := 1000000) (disch := omega) only [go_sem, wrap_i64_id]; with_reducible exact rfl)) | (show RetQ _ _ (RP _ _) _ _; refine R_ret ?_ ?_) | refine Q_thenN ?_ | refine Q_thenE ?_ | refine Q_blkE ?_ | refine Q_rndE ?_ | fail)
    all_goals (try exact sd)
    all_goals (try refine F_done ?_)
    all_goals first | rfl | trace_state
 ·have d1 : decide ((C.length : Int) = (D.length : Int)) = false := decide_eq_false (by omega)
  rw [decide_eq_false (fun h => l (congrArg List.length h))]
  repeat' (first | (show Ev _ _ _ _; first | refine Ev_seq ?_ | refine W_reg ?_ | refine W_ifT ?_ | refine Ev_ret ?_) | (show EvD _ _ [] _ _ _; refine W_nil ?_) | (show EvD _ _ (_ :: _) _ _ _; first | refine W_run tok ?_ ?_ (by simp (maxSteps := 1000000) (disch := omega) only [go_sem, wrap_i64_id, d1]; with_reducible exact rfl)) | (show RetQ _ _ (RP _ _) _ _; refine R_ret ?_ ?_) | refine Q_thenN ?_ | refine Q_thenR ?_ | fail)
  all_goals (try exact sd)
  all_goals (try refine F_done ?_)
  all_goals first | rfl | trace_state
instance i_slices_Equal_s_int_int (C D : List Int) : Con Try.prog 89 [.sl (kidsD C), .sl (kidsD D)] (C.length < 1099511627776 ∧ D.length < 1099511627776) (.bool (decide (C = D))) := ⟨c_slices_Equal_s_int_int C D ⟩
theorem c_slices_Equal_s_string_string (C D : List (List UInt8)) (hC : C.length < 1099511627776 ∧ D.length < 1099511627776) : Pure Try.prog n_slices_Equal_s_string_string [.sl (strsD C), .sl (strsD D)] (.bool (decide (C = D))) := by
 refine Pure.go tok (rs := [.tmp 4]) [.sl (strsD C), .sl (strsD D), .undef, .undef, .undef, .undef, .undef, .undef, .undef, .undef, .undef, .undef, .undef, .undef, .undef, .undef, .undef, .undef, .undef, .undef, .undef, .undef, .undef, .undef, .undef, .undef] Try.func88 (fun σ => ?_)
 have hsC := strsD_len C
 have hsD := strsD_len D
 by_cases l : C.length = D.length
 ·have d1 : decide ((C.length : Int) = (D.length : Int)) = true := decide_eq_true (by omega)
  obtain ⟨m, hm, hgood, hbad, hall⟩ := firstBad C.length (fun i => decide (C.getD i [] = D.getD i []))
  rw [all_eq _ l] at hall
  rw [hall]
  repeat' (first | (show Ev _ _ _ _; first | refine Ev_seq ?_ | refine W_reg ?_ | refine Ev_block ?_ | refine W_ifF ?_ | refine Ev_skip ?_) | (show EvD _ _ [] _ _ _; refine W_nil ?_) | (show EvD _ _ (_ :: _) _ _ _; first | refine W_run tok ?_ ?_ (by simp (maxSteps := 1000000) (disch := omega) only [go_sem, wrap_i64_id, d1]; with_reducible exact rfl)) | refine Q_thenN ?_ | fail)
  all_goals (try exact sd)
  all_goals (try refine F_done ?_)
  refine Ev_lp (m) (fun i => [(13, i64 i)]) (fun i => σ) [4, 5, 14, 15, 16, 17, 18, 19, 20, 21, 22, 23, 24, 25] ?_ (by first | rfl | (simp only [List.take_zero, List.append_nil]; done)) (fun i hi => ?_)
  ·exact le1
  by_cases hi' : i < m
  ·have g1 := strsD_get (K := C) (i := i) (by omega)
   have g2 := strsD_get (K := D) (i := i) (by omega)
   have hd := hgood i hi'
   simp only [decide_eq_true_eq] at hd
   rw [← hd] at g2
   repeat' (first | (show Ev _ (.region _ _ true) _ _; refine D_start [50, 51, 76, 78, 82, 90, 92] mix ?_) | (show DrD _ _ _ [] _ _ _ _; refine D_nil ?_; try dsimp only) | (show DrD _ (EB _ _) _ (_ :: _) _ _ _ _; first | refine D_runL tok ?_ ?_ (h := by intro R; simp (maxSteps := 1000000) (disch := omega) only [go_sem, wrap_i64_id, g1, g2]; with_reducible exact rfl)) | (show Ev _ _ _ _; first | refine Ev_seq ?_ | refine W_reg ?_ | refine Ev_block ?_ | refine W_ifF ?_ | refine W_ifY ?_ | refine Ev_skip ?_) | (show EvD _ _ [] _ _ _; refine W_nil ?_) | (show EvD _ _ (_ :: _) _ _ _; first | refine W_run tok ?_ ?_ (by simp (maxSteps := 1000000) (disch := omega) only [go_sem, wrap_i64_id, g1, g2]; with_reducible exact rfl)) | refine Q_thenN ?_ | refine Q_blkN ?_ | fail)
   all_goals (try exact sd)
   all_goals (try refine F_done ?_)
   refine Q_rndN ?_ (by omega) ?_
   rotate_left
   ·rfl
   repeat (first | exact LeL.nil | refine LeL.cons2 ?_ (Le.undef _) | refine LeL.cons2 ?_ (Le.refl _) | refine LeL.cons2 ?_ (Le.sl _) | refine LeL.cons2 ?_ (Le.eq (by first | rfl | exact congrArg _ (by omega))) | refine LeL.cons2 ?_ (Le.eq ?_))
   all_goals trace_state
  ·obtain rfl : i = m := by omega
   by_cases hl : i < C.length
   ·have g1 := strsD_get (K := C) (i := i) (by omega)
    have g2 := strsD_get (K := D) (i := i) (by omega)
    have hd := hbad hl
    rw [decide_eq_false (by omega : ¬ i = C.length)]
    repeat' (first | (show Ev _ (.region _ _ true) _ _; refine D_start [50, 51, 76, 78, 82, 90, 92] mix ?_) | (show DrD _ _ _ [] _ _ _ _; refine D_nil ?_; try dsimp only) | (show DrD _ (EB _ _) _ (_ :: _) _ _ _ _; first | refine D_runL tok ?_ ?_ (h := by intro R; simp (maxSteps := 1000000) (disch := omega) only [go_sem, wrap_i64_id, g1, g2, hd]; with_reducible exact rfl)) | (show Ev _ _ _ _; first | refine Ev_seq ?_ | refine W_reg ?_ | refine Ev_block ?_ | refine W_ifT ?_ | refine W_ifY ?_ | refine Ev_skip ?_ | refine Ev_ret ?_) | (show EvD _ _ [] _ _ _; refine W_nil ?_) | (show EvD _ _ (_ :: _) _ _ _; first | refine W_run tok ?_ ?_ (by simp (maxSteps := 1000000) (disch := omega) only [go_sem, wrap_i64_id, g1, g2, hd]; with_reducible exact rfl)) | (show RetQ _ _ (RP _ _) _ _; refine R_ret ?_ ?_) | refine Q_thenN ?_ | refine Q_thenR ?_ | refine Q_blkR ?_ | refine Q_rndR ?_ | fail)
    all_goals (try exact sd)
    all_goals (try refine F_done ?_)
    all_goals first | rfl | trace_state
   ·rw [decide_eq_true (by omega : i = C.length)]
    repeat' (first | (show Ev _ _ _ _; first | refine Ev_seq ?_ | refine W_reg ?_ | refine W_ifN ?_ | refine Ev_exit ?_ | refine Ev_ret ?_) | (show EvD _ _ [] _ _ _; refine W_nil ?_) | (show EvD _ _ (_ :: _) _ _ _; first | refine W_run tok ?_ ?_ (by simp (maxSteps := 1000000) (disch := omega) only [go_sem, wrap_i64_id]; with_reducible exact rfl)) | (show RetQ _ _ (RP _ _) _ _; refine R_ret ?_ ?_) | refine Q_thenN ?_ | refine Q_thenE ?_ | refine Q_blkE ?_ | refine Q_rndE ?_ | fail)
    all_goals (try exact sd)
    all_goals (try refine F_done ?_)
    all_goals first | rfl | trace_state
 ·have d1 : decide ((C.length : Int) = (D.length : Int)) = false := decide_eq_false (by omega)
  rw [decide_eq_false (fun h => l (congrArg List.length h))]
  repeat' (first | (show Ev _ _ _ _; first | refine Ev_seq ?_ | refine W_reg ?_ | refine W_ifT ?_ | refine Ev_ret ?_) | (show EvD _ _ [] _ _ _; refine W_nil ?_) | (show EvD _ _ (_ :: _) _ _ _; first | refine W_run tok ?_ ?_ (by simp (maxSteps := 1000000) (disch := omega) only [go_sem, wrap_i64_id, d1]; with_reducible exact rfl)) | (show RetQ _ _ (RP _ _) _ _; refine R_ret ?_ ?_) | refine Q_thenN ?_ | refine Q_thenR ?_ | fail)
  all_goals (try exact sd)
  all_goals (try refine F_done ?_)
  all_goals first | rfl | trace_state
instance i_slices_Equal_s_string_string (C D : List (List UInt8)) : Con Try.prog 88 [.sl (strsD C), .sl (strsD D)] (C.length < 1099511627776 ∧ D.length < 1099511627776) (.bool (decide (C = D))) := ⟨c_slices_Equal_s_string_string C D ⟩
theorem c_slices_Equal_s_api_Pair_api_Pair (C D : List PairB) (hC : C.length < 1099511627776 ∧ D.length < 1099511627776) : Pure Try.prog n_slices_Equal_s_api_Pair_api_Pair [.sl (pairsD C), .sl (pairsD D)] (.bool (decide (C = D))) := by
 refine Pure.go tok (rs := [.tmp 4]) [.sl (pairsD C), .sl (pairsD D), .undef, .undef, .undef, .undef, .undef, .undef, .undef, .undef, .undef, .undef, .undef, .undef, .undef, .undef, .undef, .undef, .undef, .undef, .undef, .undef, .undef, .undef, .undef, .undef] Try.func87 (fun σ => ?_)
 have hsC := pairsD_len C
 have hsD := pairsD_len D
 by_cases l : C.length = D.length
 ·have d1 : decide ((C.length : Int) = (D.length : Int)) = true := decide_eq_true (by omega)
  obtain ⟨m, hm, hgood, hbad, hall⟩ := firstBad C.length (fun i => decide (C.getD i ([], []) = D.getD i ([], [])))
  rw [all_eq _ l] at hall
  rw [hall]
  repeat' (first | (show Ev _ _ _ _; first | refine Ev_seq ?_ | refine W_reg ?_ | refine Ev_block ?_ | refine W_ifF ?_ | refine Ev_skip ?_) | (show EvD _ _ [] _ _ _; refine W_nil ?_) | (show EvD _ _ (_ :: _) _ _ _; first | refine W_run tok ?_ ?_ (by simp (maxSteps := 1000000) (disch := omega) only [go_sem, wrap_i64_id, d1]; with_reducible exact rfl)) | refine Q_thenN ?_ | fail)
  all_goals (try exact sd)
  all_goals (try refine F_done ?_)
  refine Ev_lp (m) (fun i => [(13, i64 i)]) (fun i => σ) [4, 5, 14, 15, 16, 17, 18, 19, 20, 21, 22, 23, 24, 25] ?_ (by first | rfl | (simp only [List.take_zero, List.append_nil]; done)) (fun i hi => ?_)
  ·exact le1
  by_cases hi' : i < m
  ·obtain ⟨k, v, hk, g1⟩ := pget (P := C) (i := i) (by omega)
   obtain ⟨k', v', hk', g2⟩ := pget (P := D) (i := i) (by omega)
   have hd := hgood i hi'
   simp only [hk, hk', decide_eq_true_eq, Prod.mk.injEq] at hd
   obtain ⟨rfl, rfl⟩ := hd
   repeat' (first | (show Ev _ (.region _ _ true) _ _; refine D_start [50, 51, 76, 78, 82, 90, 92] mix ?_) | (show DrD _ _ _ [] _ _ _ _; refine D_nil ?_; try dsimp only) | (show DrD _ (EB _ _) _ (_ :: _) _ _ _ _; first | refine D_runL tok ?_ ?_ (h := by intro R; simp (maxSteps := 1000000) (disch := omega) only [go_sem, wrap_i64_id, g1, g2]; with_reducible exact rfl)) | (show Ev _ _ _ _; first | refine Ev_seq ?_ | refine W_reg ?_ | refine Ev_block ?_ | refine W_ifF ?_ | refine W_ifY ?_ | refine Ev_skip ?_) | (show EvD _ _ [] _ _ _; refine W_nil ?_) | (show EvD _ _ (_ :: _) _ _ _; first | refine W_run tok ?_ ?_ (by simp (maxSteps := 1000000) (disch := omega) only [go_sem, wrap_i64_id, g1, g2]; with_reducible exact rfl)) | refine Q_thenN ?_ | refine Q_blkN ?_ | fail)
   all_goals (try exact sd)
   all_goals (try refine F_done ?_)
   refine Q_rndN ?_ (by omega) ?_
   rotate_left
   ·rfl
   repeat (first | exact LeL.nil | refine LeL.cons2 ?_ (Le.undef _) | refine LeL.cons2 ?_ (Le.refl _) | refine LeL.cons2 ?_ (Le.sl _) | refine LeL.cons2 ?_ (Le.eq (by first | rfl | exact congrArg _ (by omega))) | refine LeL.cons2 ?_ (Le.eq ?_))
   all_goals trace_state
  ·obtain rfl : i = m := by omega
   by_cases hl : i < C.length
   ·obtain ⟨k, v, hk, g1⟩ := pget (P := C) (i := i) (by omega)
    obtain ⟨k', v', hk', g2⟩ := pget (P := D) (i := i) (by omega)
    have hd := hbad hl
    simp only [hk, hk', decide_eq_false_iff_not, Prod.mk.injEq] at hd
    rw [decide_eq_false (by omega : ¬ i = C.length)]
    by_cases ek : k = k'
    ·subst ek
     have ev : decide (v = v') = false := decide_eq_false (fun h => hd ⟨rfl, h⟩)
     repeat' (first | (show Ev _ (.region _ _ true) _ _; refine D_start [50, 51, 76, 78, 82, 90, 92] mix ?_) | (show DrD _ _ _ [] _ _ _ _; refine D_nil ?_; try dsimp only) | (show DrD _ (EB _ _) _ (_ :: _) _ _ _ _; first | refine D_runL tok ?_ ?_ (h := by intro R; simp (maxSteps := 1000000) (disch := omega) only [go_sem, wrap_i64_id, g1, g2, ev]; with_reducible exact rfl)) | (show Ev _ _ _ _; first | refine Ev_seq ?_ | refine W_reg ?_ | refine Ev_block ?_ | refine W_ifT ?_ | refine W_ifY ?_ | refine Ev_skip ?_ | refine Ev_ret ?_) | (show EvD _ _ [] _ _ _; refine W_nil ?_) | (show EvD _ _ (_ :: _) _ _ _; first | refine W_run tok ?_ ?_ (by simp (maxSteps := 1000000) (disch := omega) only [go_sem, wrap_i64_id, g1, g2, ev]; with_reducible exact rfl)) | (show RetQ _ _ (RP _ _) _ _; refine R_ret ?_ ?_) | refine Q_thenN ?_ | refine Q_thenR ?_ | refine Q_blkR ?_ | refine Q_rndR ?_ | fail)
     all_goals (try exact sd)
     all_goals (try refine F_done ?_)
     all_goals first | rfl | trace_state
    ·have ek2 : decide (k = k') = false := decide_eq_false ek
     repeat' (first | (show Ev _ (.region _ _ true) _ _; refine D_start [50, 51, 76, 78, 82, 90, 92] mix ?_) | (show DrD _ _ _ [] _ _ _ _; refine D_nil ?_; try dsimp only) | (show DrD _ (EB _ _) _ (_ :: _) _ _ _ _; first | refine D_runL tok ?_ ?_ (h := by intro R; simp (maxSteps := 1000000) (disch := omega) only [go_sem, wrap_i64_id, g1, g2, ek2]; with_reducible exact rfl)) | (show Ev _ _ _ _; first | refine Ev_seq ?_ | refine W_reg ?_ | refine Ev_block ?_ | refine W_ifT ?_ | refine W_ifY ?_ | refine Ev_skip ?_ | refine Ev_ret ?_) | (show EvD _ _ [] _ _ _; refine W_nil ?_) | (show EvD _ _ (_ :: _) _ _ _; first | refine W_run tok ?_ ?_ (by simp (maxSteps := 1000000) (disch := omega) only [go_sem, wrap_i64_id, g1, g2, ek2]; with_reducible exact rfl)) | (show RetQ _ _ (RP _ _) _ _; refine R_ret ?_ ?_) | refine Q_thenN ?_ | refine Q_thenR ?_ | refine Q_blkR ?_ | refine Q_rndR ?_ | fail)
     all_goals (try exact sd)
     all_goals (try refine F_done ?_)
     all_goals first | rfl | trace_state
   ·rw [decide_eq_true (by omega : i = C.length)]
    repeat' (first | (show Ev _ _ _ _; first | refine Ev_seq ?_ | refine W_reg ?_ | refine W_ifN ?_ | refine Ev_exit ?_ | refine Ev_ret ?_) | (show EvD _ _ [] _ _ _; refine W_nil ?_) | (show EvD _ _ (_ :: _) _ _ _; first | refine W_run tok ?_ ?_ (by simp (maxSteps := 1000000) (disch := omega) only [go_sem, wrap_i64_id]; with_reducible exact rfl)) | (show RetQ _ _ (RP _ _) _ _; refine R_ret ?_ ?_) | refine Q_thenN ?_ | refine Q_thenE ?_ | refine Q_blkE ?_ | refine Q_rndE ?_ | fail)
    all_goals (try exact sd)
    all_goals (try refine F_done ?_)
    all_goals first | rfl | trace_state
 ·have d1 : decide ((C.length : Int) = (D.length : Int)) = false := decide_eq_false (by omega)
  rw [decide_eq_false (fun h => l (congrArg List.length h))]
  repeat' (first | (show Ev _ _ _ _; first | refine Ev_seq ?_ | refine W_reg ?_ | refine W_ifT ?_ | refine Ev_ret ?_) | (show EvD _ _ [] _ _ _; refine W_nil ?_) | (show EvD _ _ (_ :: _) _ _ _; first | refine W_run tok ?_ ?_ (by simp (maxSteps := 1000000) (disch := omega) only [go_sem, wrap_i64_id, d1]; with_reducible exact rfl)) | (show RetQ _ _ (RP _ _) _ _; refine R_ret ?_ ?_) | refine Q_thenN ?_ | refine Q_thenR ?_ | fail)
  all_goals (try exact sd)
  all_goals (try refine F_done ?_)
  all_goals first | rfl | trace_state
instance i_slices_Equal_s_api_Pair_api_Pair (C D : List PairB) : Con Try.prog 87 [.sl (pairsD C), .sl (pairsD D)] (C.length < 1099511627776 ∧ D.length < 1099511627776) (.bool (decide (C = D))) := ⟨c_slices_Equal_s_api_Pair_api_Pair C D ⟩
end Go.Val.Ytgjmpefhjdgkoaa
