/- Chapter 08: whether two nodes are the same by the document, walked. -/
import Derived.Test.YtgjmpefhjdgkoaaN08c
namespace Go.Val.Ytgjmpefhjdgkoaa
open Go Go.Val Go.Proofs Go.Proofs.Ytgjmpefhjdgkoaa
attribute [local irreducible] Ev EvD EvC thenQ blockQ RoundG RetQ
set_option maxRecDepth 100000
set_option maxHeartbeats 4000000
set_option linter.unusedSimpArgs false
set_option linter.unusedVariables false
theorem eq_of_get {α : Type} (d : α) {l m : List α} (h : l.length = m.length) (he : ∀ i, i < l.length → l.getD i d = m.getD i d) : l = m := by
 apply List.ext_getElem h
 intro i h1 h2
 have := he i h1
 rwa [List.getD_eq_getElem?_getD, List.getD_eq_getElem?_getD, List.getElem?_eq_getElem h1, List.getElem?_eq_getElem h2] at this
theorem all_eq {α : Type} [DecidableEq α] (d : α) {l m : List α} (h : l.length = m.length) : allN l.length (fun i => decide (l.getD i d = m.getD i d)) = decide (l = m) := by
 rw [Bool.eq_iff_iff, allN_iff, decide_eq_true_eq]
 constructor
 ·exact fun he => eq_of_get d h (fun i hi => by simpa using he i hi)
 ·rintro rfl i hi; simp
theorem c_bursarref08_Same (P : List PairB) (K : List (List UInt8)) (C : List Int) (P' : List PairB) (K' : List (List UInt8)) (C' : List Int) (hC : (P.length < 1099511627776 ∧ K.length < 1099511627776 ∧ C.length < 1099511627776) ∧ P'.length < 1099511627776 ∧ K'.length < 1099511627776 ∧ C'.length < 1099511627776) : Pure Try.prog n_bursarref08_Same [nodeD P K C, nodeD P' K' C'] (.bool (decide (P = P') && decide (K = K') && decide (C = C'))) := by
 refine Pure.go tok (rs := [.tmp 4]) [nodeD P K C, nodeD P' K' C', .undef, .undef, .undef, .undef, .undef, .undef, .undef, .undef, .undef, .undef, .undef, .undef, .undef, .undef, .undef, .undef, .undef, .undef, .undef, .undef, .undef, .undef, .undef, .undef, .undef, .undef, .undef, .undef, .undef, .undef, .undef, .undef, .undef, .undef, .undef, .undef, .undef, .undef, .undef, .undef, .undef, .undef, .undef, .undef, .undef, .undef, .undef, .undef, .undef, .undef, .undef, .undef, .undef, .undef, .undef, .undef, .undef, .undef, .undef, .undef, .undef, .undef, .undef, .undef, .undef, .undef, .undef, .undef, .undef, .undef, .undef, .undef, .undef, .undef, .undef, .undef, .undef, .undef, .undef, .undef, .undef, .undef, .undef, .undef, .undef] Try.func33 (fun σ => ?_)
 have hsP := pairsD_len P
 have hsK := strsD_len K
 have hsC := kidsD_len C
 have hsP' := pairsD_len P'
 have hsK' := strsD_len K'
 have hsC' := kidsD_len C'
 by_cases l1 : P.length = P'.length
 ·have d1 : decide ((P.length : Int) = (P'.length : Int)) = true := decide_eq_true (by omega)
  by_cases l2 : K.length = K'.length
  ·have d2 : decide ((K.length : Int) = (K'.length : Int)) = true := decide_eq_true (by omega)
   by_cases l3 : C.length = C'.length
   ·have d3 : decide ((C.length : Int) = (C'.length : Int)) = true := decide_eq_true (by omega)
    obtain ⟨m1, hm1, hgood1, hbad1, hall1⟩ := firstBad P.length (fun i => decide (P.getD i ([], []) = P'.getD i ([], [])))
    obtain ⟨m2, hm2, hgood2, hbad2, hall2⟩ := firstBad K.length (fun i => decide (K.getD i [] = K'.getD i []))
    obtain ⟨m3, hm3, hgood3, hbad3, hall3⟩ := firstBad C.length (fun i => decide (C.getD i 0 = C'.getD i 0))
    rw [all_eq _ l1] at hall1
    rw [all_eq _ l2] at hall2
    rw [all_eq _ l3] at hall3
    rw [hall1, hall2, hall3]
    repeat' (first | (show Ev _ _ _ _; first | refine Ev_seq ?_ | refine W_reg ?_ | refine Ev_block ?_ | refine W_ifF ?_ | refine Ev_skip ?_) | (show EvD _ _ [] _ _ _; refine W_nil ?_) | (show EvD _ _ (_ :: _) _ _ _; first | refine W_run tok ?_ ?_ (by simp (maxSteps := 1000000) (disch := omega) only [go_sem, wrap_i64_id, d1, d2, d3]; with_reducible exact rfl)) | refine Q_thenN ?_ | fail)
    all_goals (try exact sd)
    all_goals (try refine F_done ?_)
    refine Ev_lp (m1) (fun i => [(5, i64 i)]) (fun i => ⟨σ.rows, σ.boxes ++ [some ⟨42, [.sl (pairsD P), .sl (strsD K), .sl (kidsD C)]⟩, some ⟨42, [.sl (pairsD P'), .sl (strsD K'), .sl (kidsD C')]⟩], σ.maps⟩) [4, 33, 34, 35, 36, 37, 38, 39, 40, 41, 42, 43, 44, 45, 46, 47, 48, 49, 50] ?_ (by first | rfl | (simp only [List.take_zero, List.append_nil]; done)) (fun i hi => ?_)
    ·exact le1
    by_cases hi' : i < m1
    ·obtain ⟨k, v, hk, hg⟩ := pget (P := P) (i := i) (by omega)
     obtain ⟨k', v', hk', hg'⟩ := pget (P := P') (i := i) (by omega)
     have hd := hgood1 i hi'
     simp only [hk, hk', decide_eq_true_eq, Prod.mk.injEq] at hd
     obtain ⟨rfl, rfl⟩ := hd
     repeat' (first | (show Ev _ (.region _ _ true) _ _; refine D_start [50, 51, 82] mix ?_) | (show DrD _ _ _ [] _ _ _ _; refine D_nil ?_; try dsimp only) | (show DrD _ (EB _ _) _ (_ :: _) _ _ _ _; first | refine D_runL tok ?_ ?_ (h := by intro R; simp (maxSteps := 1000000) (disch := omega) only [go_sem, wrap_i64_id, hg, hg']; with_reducible exact rfl)) | (show Ev _ _ _ _; first | refine Ev_seq ?_ | refine W_reg ?_ | refine Ev_block ?_ | refine W_ifF ?_ | refine W_ifY ?_ | refine Ev_skip ?_) | (show EvD _ _ [] _ _ _; refine W_nil ?_) | (show EvD _ _ (_ :: _) _ _ _; first | refine W_run tok ?_ ?_ (by simp (maxSteps := 1000000) (disch := omega) only [go_sem, wrap_i64_id, hg, hg']; with_reducible exact rfl)) | refine Q_thenN ?_ | refine Q_blkN ?_ | fail)
     all_goals (try exact sd)
     all_goals (try refine F_done ?_)
     refine Q_rndN ?_ (by omega) ?_
     rotate_left
     ·rfl
     repeat (first | exact LeL.nil | refine LeL.cons2 ?_ (Le.undef _) | refine LeL.cons2 ?_ (Le.refl _) | refine LeL.cons2 ?_ (Le.sl _) | refine LeL.cons2 ?_ (Le.eq (by first | rfl | exact congrArg _ (by omega))) | refine LeL.cons2 ?_ (Le.eq ?_))
    ·obtain rfl : i = m1 := by omega
     by_cases hl : i < P.length
     ·rw [decide_eq_false (by omega : ¬ i = P.length)]
      obtain ⟨k, v, hk, hg⟩ := pget (P := P) (i := i) (by omega)
      obtain ⟨k', v', hk', hg'⟩ := pget (P := P') (i := i) (by omega)
      have hd := hbad1 hl
      simp only [hk, hk', decide_eq_false_iff_not, Prod.mk.injEq] at hd
      by_cases ek : k = k'
      ·subst ek
       have ev : decide (v = v') = false := decide_eq_false (fun h => hd ⟨rfl, h⟩)
       repeat' (first | (show Ev _ (.region _ _ true) _ _; refine D_start [50, 51, 82] mix ?_) | (show DrD _ _ _ [] _ _ _ _; refine D_nil ?_; try dsimp only) | (show DrD _ (EB _ _) _ (_ :: _) _ _ _ _; first | refine D_runL tok ?_ ?_ (h := by intro R; simp (maxSteps := 1000000) (disch := omega) only [go_sem, wrap_i64_id, hg, hg', ev]; with_reducible exact rfl)) | (show Ev _ _ _ _; first | refine Ev_seq ?_ | refine W_reg ?_ | refine Ev_block ?_ | refine W_ifT ?_ | refine W_ifY ?_ | refine Ev_skip ?_ | refine Ev_ret ?_) | (show EvD _ _ [] _ _ _; refine W_nil ?_) | (show EvD _ _ (_ :: _) _ _ _; first | refine W_run tok ?_ ?_ (by simp (maxSteps := 1000000) (disch := omega) only [go_sem, wrap_i64_id, hg, hg', ev]; with_reducible exact rfl)) | (show RetQ _ _ (RP _ _) _ _; refine R_ret ?_ ?_) | refine Q_thenN ?_ | refine Q_thenR ?_ | refine Q_blkR ?_ | refine Q_rndR ?_ | fail)
       all_goals (try exact sd)
       all_goals (try refine F_done ?_)
       all_goals first | rfl | (simp; done) | skip
      ·have ev : decide (k = k') = false := decide_eq_false ek
       repeat' (first | (show Ev _ (.region _ _ true) _ _; refine D_start [50, 51, 82] mix ?_) | (show DrD _ _ _ [] _ _ _ _; refine D_nil ?_; try dsimp only) | (show DrD _ (EB _ _) _ (_ :: _) _ _ _ _; first | refine D_runL tok ?_ ?_ (h := by intro R; simp (maxSteps := 1000000) (disch := omega) only [go_sem, wrap_i64_id, hg, hg', ev]; with_reducible exact rfl)) | (show Ev _ _ _ _; first | refine Ev_seq ?_ | refine W_reg ?_ | refine Ev_block ?_ | refine W_ifT ?_ | refine W_ifY ?_ | refine Ev_skip ?_ | refine Ev_ret ?_) | (show EvD _ _ [] _ _ _; refine W_nil ?_) | (show EvD _ _ (_ :: _) _ _ _; first | refine W_run tok ?_ ?_ (by simp (maxSteps := 1000000) (disch := omega) only [go_sem, wrap_i64_id, hg, hg', ev]; with_reducible exact rfl)) | (show RetQ _ _ (RP _ _) _ _; refine R_ret ?_ ?_) | refine Q_thenN ?_ | refine Q_thenR ?_ | refine Q_blkR ?_ | refine Q_rndR ?_ | fail)
       all_goals (try exact sd)
       all_goals (try refine F_done ?_)
       all_goals first | rfl | (simp; done) | skip
     ·rw [decide_eq_true (by omega : i = P.length), Bool.true_and]
      clear hgood1 hbad1 hall1 hm1 hi'
      repeat' (first | (show Ev _ _ _ _; first | refine Ev_seq ?_ | refine W_reg ?_ | refine Ev_block ?_ | refine W_ifN ?_ | refine Ev_exit ?_) | (show EvD _ _ [] _ _ _; refine W_nil ?_) | (show EvD _ _ (_ :: _) _ _ _; first | refine W_run tok ?_ ?_ (by simp (maxSteps := 1000000) (disch := omega) only [go_sem, wrap_i64_id]; with_reducible exact rfl)) | refine Q_thenN ?_ | refine Q_thenE ?_ | refine Q_blkE ?_ | refine Q_rndE ?_ | fail)
      all_goals (try exact sd)
      all_goals (try refine F_done ?_)
      refine Ev_lp (m2) (fun i => [(6, i64 i)]) (fun i => ⟨σ.rows, σ.boxes ++ [some ⟨42, [.sl (pairsD P), .sl (strsD K), .sl (kidsD C)]⟩, some ⟨42, [.sl (pairsD P'), .sl (strsD K'), .sl (kidsD C')]⟩], σ.maps⟩) [4, 51, 52, 53, 54, 55, 56, 57, 58, 59, 60, 61, 62, 63, 64, 65, 66, 67, 68] ?_ (by first | rfl | (simp only [List.take_zero, List.append_nil]; done)) (fun i hi => ?_)
      ·exact le1
      by_cases hi' : i < m2
      ·obtain ⟨k, hk, hg⟩ := kget (K := K) (i := i) (by omega)
       obtain ⟨k', hk', hg'⟩ := kget (K := K') (i := i) (by omega)
       have hd := hgood2 i hi'
       simp only [hk, hk', decide_eq_true_eq] at hd
       subst hd
       repeat' (first | (show Ev _ (.region _ _ true) _ _; refine D_start [50, 51, 82] mix ?_) | (show DrD _ _ _ [] _ _ _ _; refine D_nil ?_; try dsimp only) | (show DrD _ (EB _ _) _ (_ :: _) _ _ _ _; first | refine D_runL tok ?_ ?_ (h := by intro R; simp (maxSteps := 1000000) (disch := omega) only [go_sem, wrap_i64_id, hg, hg']; with_reducible exact rfl)) | (show Ev _ _ _ _; first | refine Ev_seq ?_ | refine W_reg ?_ | refine Ev_block ?_ | refine W_ifF ?_ | refine W_ifY ?_ | refine Ev_skip ?_) | (show EvD _ _ [] _ _ _; refine W_nil ?_) | (show EvD _ _ (_ :: _) _ _ _; first | refine W_run tok ?_ ?_ (by simp (maxSteps := 1000000) (disch := omega) only [go_sem, wrap_i64_id, hg, hg']; with_reducible exact rfl)) | refine Q_thenN ?_ | refine Q_blkN ?_ | fail)
       all_goals (try exact sd)
       all_goals (try refine F_done ?_)
       refine Q_rndN ?_ (by omega) ?_
       rotate_left
       ·rfl
       repeat (first | exact LeL.nil | refine LeL.cons2 ?_ (Le.undef _) | refine LeL.cons2 ?_ (Le.refl _) | refine LeL.cons2 ?_ (Le.sl _) | refine LeL.cons2 ?_ (Le.eq (by first | rfl | exact congrArg _ (by omega))) | refine LeL.cons2 ?_ (Le.eq ?_))
      ·obtain rfl : i = m2 := by omega
       by_cases hl : i < K.length
       ·rw [decide_eq_false (by omega : ¬ i = K.length)]
        obtain ⟨k, hk, hg⟩ := kget (K := K) (i := i) (by omega)
        obtain ⟨k', hk', hg'⟩ := kget (K := K') (i := i) (by omega)
        have hd := hbad2 hl
        simp only [hk, hk'] at hd
        repeat' (first | (show Ev _ (.region _ _ true) _ _; refine D_start [50, 51, 82] mix ?_) | (show DrD _ _ _ [] _ _ _ _; refine D_nil ?_; try dsimp only) | (show DrD _ (EB _ _) _ (_ :: _) _ _ _ _; first | refine D_runL tok ?_ ?_ (h := by intro R; simp (maxSteps := 1000000) (disch := omega) only [go_sem, wrap_i64_id, hg, hg', hd]; with_reducible exact rfl)) | (show Ev _ _ _ _; first | refine Ev_seq ?_ | refine W_reg ?_ | refine Ev_block ?_ | refine W_ifT ?_ | refine W_ifY ?_ | refine Ev_skip ?_ | refine Ev_ret ?_) | (show EvD _ _ [] _ _ _; refine W_nil ?_) | (show EvD _ _ (_ :: _) _ _ _; first | refine W_run tok ?_ ?_ (by simp (maxSteps := 1000000) (disch := omega) only [go_sem, wrap_i64_id, hg, hg', hd]; with_reducible exact rfl)) | (show RetQ _ _ (RP _ _) _ _; refine R_ret ?_ ?_) | refine Q_thenN ?_ | refine Q_thenR ?_ | refine Q_blkR ?_ | refine Q_rndR ?_ | fail)
        all_goals (try exact sd)
        all_goals (try refine F_done ?_)
        all_goals first | rfl | (simp; done) | skip
       ·rw [decide_eq_true (by omega : i = K.length), Bool.true_and]
        clear hgood2 hbad2 hall2 hm2 hi'
        repeat' (first | (show Ev _ _ _ _; first | refine Ev_seq ?_ | refine W_reg ?_ | refine Ev_block ?_ | refine W_ifN ?_ | refine Ev_exit ?_) | (show EvD _ _ [] _ _ _; refine W_nil ?_) | (show EvD _ _ (_ :: _) _ _ _; first | refine W_run tok ?_ ?_ (by simp (maxSteps := 1000000) (disch := omega) only [go_sem, wrap_i64_id]; with_reducible exact rfl)) | refine Q_thenN ?_ | refine Q_thenE ?_ | refine Q_blkE ?_ | refine Q_rndE ?_ | fail)
        all_goals (try exact sd)
        all_goals (try refine F_done ?_)
        refine Ev_lp (m3) (fun i => [(7, i64 i)]) (fun i => ⟨σ.rows, σ.boxes ++ [some ⟨42, [.sl (pairsD P), .sl (strsD K), .sl (kidsD C)]⟩, some ⟨42, [.sl (pairsD P'), .sl (strsD K'), .sl (kidsD C')]⟩], σ.maps⟩) [4, 69, 70, 71, 72, 73, 74, 75, 76, 77, 78, 79, 80, 81, 82, 83, 84, 85, 86] ?_ (by first | rfl | (simp only [List.take_zero, List.append_nil]; done)) (fun i hi => ?_)
        ·exact le1
        by_cases hi' : i < m3
        ·obtain ⟨k, hk, hg⟩ := cget (C := C) (i := i) (by omega)
         obtain ⟨k', hk', hg'⟩ := cget (C := C') (i := i) (by omega)
         have hd := hgood3 i hi'
         simp only [hk, hk', decide_eq_true_eq] at hd
         subst hd
         repeat' (first | (show Ev _ (.region _ _ true) _ _; refine D_start [50, 51, 82] mix ?_) | (show DrD _ _ _ [] _ _ _ _; refine D_nil ?_; try dsimp only) | (show DrD _ (EB _ _) _ (_ :: _) _ _ _ _; first | refine D_runL tok ?_ ?_ (h := by intro R; simp (maxSteps := 1000000) (disch := omega) only [go_sem, wrap_i64_id, hg, hg']; with_reducible exact rfl)) | (show Ev _ _ _ _; first | refine Ev_seq ?_ | refine W_reg ?_ | refine Ev_block ?_ | refine W_ifF ?_ | refine W_ifY ?_ | refine Ev_skip ?_) | (show EvD _ _ [] _ _ _; refine W_nil ?_) | (show EvD _ _ (_ :: _) _ _ _; first | refine W_run tok ?_ ?_ (by simp (maxSteps := 1000000) (disch := omega) only [go_sem, wrap_i64_id, hg, hg']; with_reducible exact rfl)) | refine Q_thenN ?_ | refine Q_blkN ?_ | fail)
         all_goals (try exact sd)
         all_goals (try refine F_done ?_)
         refine Q_rndN ?_ (by omega) ?_
         rotate_left
         ·rfl
         repeat (first | exact LeL.nil | refine LeL.cons2 ?_ (Le.undef _) | refine LeL.cons2 ?_ (Le.refl _) | refine LeL.cons2 ?_ (Le.sl _) | refine LeL.cons2 ?_ (Le.eq (by first | rfl | exact congrArg _ (by omega))) | refine LeL.cons2 ?_ (Le.eq ?_))
        ·obtain rfl : i = m3 := by omega
         by_cases hl : i < C.length
         ·rw [decide_eq_false (by omega : ¬ i = C.length)]
          obtain ⟨k, hk, hg⟩ := cget (C := C) (i := i) (by omega)
          obtain ⟨k', hk', hg'⟩ := cget (C := C') (i := i) (by omega)
          have hd := hbad3 hl
          simp only [hk, hk'] at hd
          repeat' (first | (show Ev _ (.region _ _ true) _ _; refine D_start [50, 51, 82] mix ?_) | (show DrD _ _ _ [] _ _ _ _; refine D_nil ?_; try dsimp only) | (show DrD _ (EB _ _) _ (_ :: _) _ _ _ _; first | refine D_runL tok ?_ ?_ (h := by intro R; simp (maxSteps := 1000000) (disch := omega) only [go_sem, wrap_i64_id, hg, hg', hd]; with_reducible exact rfl)) | (show Ev _ _ _ _; first | refine Ev_seq ?_ | refine W_reg ?_ | refine Ev_block ?_ | refine W_ifT ?_ | refine W_ifY ?_ | refine Ev_skip ?_ | refine Ev_ret ?_) | (show EvD _ _ [] _ _ _; refine W_nil ?_) | (show EvD _ _ (_ :: _) _ _ _; first | refine W_run tok ?_ ?_ (by simp (maxSteps := 1000000) (disch := omega) only [go_sem, wrap_i64_id, hg, hg', hd]; with_reducible exact rfl)) | (show RetQ _ _ (RP _ _) _ _; refine R_ret ?_ ?_) | refine Q_thenN ?_ | refine Q_thenR ?_ | refine Q_blkR ?_ | refine Q_rndR ?_ | fail)
          all_goals (try exact sd)
          all_goals (try refine F_done ?_)
          all_goals first | rfl | (simp; done) | skip
         ·rw [decide_eq_true (by omega : i = C.length)]
          repeat' (first | (show Ev _ _ _ _; first | refine Ev_seq ?_ | refine W_reg ?_ | refine W_ifN ?_ | refine Ev_exit ?_ | refine Ev_ret ?_) | (show EvD _ _ [] _ _ _; refine W_nil ?_) | (show EvD _ _ (_ :: _) _ _ _; first | refine W_run tok ?_ ?_ (by simp (maxSteps := 1000000) (disch := omega) only [go_sem, wrap_i64_id]; with_reducible exact rfl)) | (show RetQ _ _ (RP _ _) _ _; refine R_ret ?_ ?_) | refine Q_thenN ?_ | refine Q_thenE ?_ | refine Q_blkE ?_ | refine Q_rndE ?_ | fail)
          all_goals (try exact sd)
          all_goals (try refine F_done ?_)
          all_goals first | rfl | (simp; done) | skip
   ·rw [decide_eq_false (by intro h; exact l3 (by rw [h]) : ¬ C = C')]
    have d3 : decide ((C.length : Int) = (C'.length : Int)) = false := decide_eq_false (by omega)
    repeat' (first | (show Ev _ _ _ _; first | refine Ev_seq ?_ | refine W_reg ?_ | refine W_ifT ?_ | refine Ev_ret ?_) | (show EvD _ _ [] _ _ _; refine W_nil ?_) | (show EvD _ _ (_ :: _) _ _ _; first | refine W_run tok ?_ ?_ (by simp (maxSteps := 1000000) (disch := omega) only [go_sem, wrap_i64_id, d1, d2, d3]; with_reducible exact rfl)) | (show RetQ _ _ (RP _ _) _ _; refine R_ret ?_ ?_) | refine Q_thenN ?_ | refine Q_thenR ?_ | fail)
    all_goals (try exact sd)
    all_goals (try refine F_done ?_)
    all_goals first | rfl | (simp; done) | skip
  ·rw [decide_eq_false (by intro h; exact l2 (by rw [h]) : ¬ K = K')]
   have d2 : decide ((K.length : Int) = (K'.length : Int)) = false := decide_eq_false (by omega)
   repeat' (first | (show Ev _ _ _ _; first | refine Ev_seq ?_ | refine W_reg ?_ | refine W_ifT ?_ | refine Ev_ret ?_) | (show EvD _ _ [] _ _ _; refine W_nil ?_) | (show EvD _ _ (_ :: _) _ _ _; first | refine W_run tok ?_ ?_ (by simp (maxSteps := 1000000) (disch := omega) only [go_sem, wrap_i64_id, d1, d2]; with_reducible exact rfl)) | (show RetQ _ _ (RP _ _) _ _; refine R_ret ?_ ?_) | refine Q_thenN ?_ | refine Q_thenR ?_ | fail)
   all_goals (try exact sd)
   all_goals (try refine F_done ?_)
   all_goals first | rfl | (simp; done) | skip
 ·rw [decide_eq_false (by intro h; exact l1 (by rw [h]) : ¬ P = P')]
  have d1 : decide ((P.length : Int) = (P'.length : Int)) = false := decide_eq_false (by omega)
  repeat' (first | (show Ev _ _ _ _; first | refine Ev_seq ?_ | refine W_reg ?_ | refine W_ifT ?_ | refine Ev_ret ?_) | (show EvD _ _ [] _ _ _; refine W_nil ?_) | (show EvD _ _ (_ :: _) _ _ _; first | refine W_run tok ?_ ?_ (by simp (maxSteps := 1000000) (disch := omega) only [go_sem, wrap_i64_id, d1]; with_reducible exact rfl)) | (show RetQ _ _ (RP _ _) _ _; refine R_ret ?_ ?_) | refine Q_thenN ?_ | refine Q_thenR ?_ | fail)
  all_goals (try exact sd)
  all_goals (try refine F_done ?_)
  all_goals first | rfl | (simp; done) | skip
instance i_bursarref08_Same (P : List PairB) (K : List (List UInt8)) (C : List Int) (P' : List PairB) (K' : List (List UInt8)) (C' : List Int) : Con Try.prog 33 [nodeD P K C, nodeD P' K' C'] ((P.length < 1099511627776 ∧ K.length < 1099511627776 ∧ C.length < 1099511627776) ∧ P'.length < 1099511627776 ∧ K'.length < 1099511627776 ∧ C'.length < 1099511627776) (.bool (decide (P = P') && decide (K = K') && decide (C = C'))) := ⟨c_bursarref08_Same P  K  C  P'  K'  C' ⟩
end Go.Val.Ytgjmpefhjdgkoaa
