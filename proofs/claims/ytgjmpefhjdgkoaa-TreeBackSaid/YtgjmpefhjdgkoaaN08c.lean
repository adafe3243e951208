/- Chapter 08: which nodes may be by the document, walked. -/
import Derived.Test.YtgjmpefhjdgkoaaN08b
namespace Go.Val.Ytgjmpefhjdgkoaa
open Go Go.Val Go.Proofs Go.Proofs.Ytgjmpefhjdgkoaa
attribute [local irreducible] Ev EvD EvC thenQ blockQ RoundG RetQ
set_option maxRecDepth 100000
set_option maxHeartbeats 4000000
set_option linter.unusedSimpArgs false
set_option linter.unusedVariables false
def okP (P : List PairB) (i : Nat) : Bool := decide (keyP (P.getD i ([], [])).1) && decide (valP (P.getD i ([], [])).2) && (decide (i = 0) || Op.bytesLess (P.getD (i - 1) ([], [])).1 (P.getD i ([], [])).1)
def okK (K : List (List UInt8)) (i : Nat) : Bool := decide (keyP (K.getD i [])) && (decide (i = 0) || Op.bytesLess (K.getD (i - 1) []) (K.getD i []))
def okC (C : List Int) (i : Nat) : Bool := decide (0 ≤ C.getD i 0) && decide (C.getD i 0 ≤ 199) && allN i (fun k => !decide (C.getD k 0 = C.getD i 0))
def shapeN (P : List PairB) (K : List (List UInt8)) (C : List Int) : Bool :=
 if C.length = 0 then decide (K.length = 0) && decide (P.length ≤ 5) else decide (P.length = 0) && decide (2 ≤ C.length) && decide (C.length ≤ 8) && decide (K.length = C.length - 1)
def mayN (P : List PairB) (K : List (List UInt8)) (C : List Int) : Bool := allN P.length (okP P) && allN K.length (okK K) && allN C.length (okC C) && shapeN P K C
theorem kget {K : List (List UInt8)} {i : Nat} (h : i < K.length) : ∃ k, K.getD i [] = k ∧ (strsD K).getD i .undef = .str k := ⟨_, rfl, strsD_get h⟩
theorem cget {C : List Int} {i : Nat} (h : i < C.length) : ∃ k, C.getD i 0 = k ∧ (kidsD C).getD i .undef = .int .i64 k := ⟨_, rfl, kidsD_get h⟩
theorem c_bursarref08_May (P : List PairB) (K : List (List UInt8)) (C : List Int) (hC : P.length < 1099511627776 ∧ K.length < 1099511627776 ∧ C.length < 1099511627776) : Pure Try.prog n_bursarref08_May [nodeD P K C] (.bool (mayN P K C)) := by
 refine Pure.go tok (rs := [.tmp 2]) [nodeD P K C, .undef, .undef, .undef, .undef, .undef, .undef, .undef, .undef, .undef, .undef, .undef, .undef, .undef, .undef, .undef, .undef, .undef, .undef, .undef, .undef, .undef, .undef, .undef, .undef, .undef, .undef, .undef, .undef, .undef, .undef, .undef, .undef, .undef, .undef, .undef, .undef, .undef, .undef, .undef, .undef, .undef, .undef, .undef, .undef, .undef, .undef, .undef, .undef, .undef, .undef, .undef, .undef, .undef, .undef, .undef, .undef, .undef, .undef, .undef, .undef, .undef, .undef, .undef, .undef, .undef, .undef, .undef, .undef, .undef, .undef, .undef, .undef, .undef, .undef, .undef, .undef, .undef, .undef, .undef, .undef, .undef, .undef, .undef, .undef, .undef, .undef, .undef, .undef, .undef, .undef, .undef, .undef, .undef, .undef, .undef, .undef, .undef, .undef, .undef, .undef, .undef, .undef, .undef, .undef, .undef, .undef, .undef, .undef, .undef, .undef, .undef, .undef, .undef, .undef, .undef, .undef, .undef, .undef, .undef, .undef, .undef, .undef, .undef, .undef, .undef, .undef, .undef, .undef, .undef, .undef, .undef, .undef, .undef, .undef, .undef, .undef, .undef, .undef, .undef, .undef, .undef, .undef, .undef, .undef, .undef, .undef, .undef, .undef, .undef, .undef, .undef, .undef, .undef, .undef, .undef, .undef, .undef, .undef, .undef, .undef] Try.func25 (fun σ => ?_)
 have hsP := pairsD_len P
 have hsK := strsD_len K
 have hsC := kidsD_len C
 obtain ⟨m1, hm1, hgood1, hbad1, hall1⟩ := firstBad P.length (okP P)
 obtain ⟨m2, hm2, hgood2, hbad2, hall2⟩ := firstBad K.length (okK K)
 obtain ⟨m3, hm3, hgood3, hbad3, hall3⟩ := firstBad C.length (okC C)
 unfold mayN
 rw [hall1, hall2, hall3]
 repeat' (first | (show Ev _ _ _ _; first | refine Ev_seq ?_ | refine W_reg ?_ | refine Ev_block ?_) | (show EvD _ _ [] _ _ _; refine W_nil ?_) | (show EvD _ _ (_ :: _) _ _ _; first | refine W_run tok ?_ ?_ (by simp (maxSteps := 1000000) (disch := omega) only [go_sem, wrap_i64_id]; with_reducible exact rfl)) | refine Q_thenN ?_ | fail)
 all_goals (try exact sd)
 all_goals (try refine F_done ?_)
 refine Ev_lp (m1) (fun i => [(3, i64 i)]) (fun i => ⟨σ.rows, σ.boxes ++ [some ⟨42, [.sl (pairsD P), .sl (strsD K), .sl (kidsD C)]⟩], σ.maps⟩) [2, 7, 8, 9, 10, 11, 12, 13, 14, 15, 16, 17, 18, 19, 20, 21, 22, 23, 24, 25, 26, 27, 28, 29, 30, 31, 32, 33, 34, 35, 36, 37, 38, 39, 40, 41, 42, 43, 44, 45, 46, 47, 48, 49, 50, 51] ?_ (by first | rfl | (simp only [List.take_zero, List.append_nil]; done)) (fun i hi => ?_)
 ·exact le1
 by_cases hi' : i < m1
 ·obtain ⟨k, v, hk, hg⟩ := pget (P := P) (i := i) (by omega)
  have hd := hgood1 i hi'
  simp only [okP, hk, Bool.and_eq_true, Bool.or_eq_true] at hd
  obtain ⟨⟨d1, d2⟩, d3⟩ := hd
  rcases Nat.eq_zero_or_pos i with rfl | h0
  ·repeat' (first | (show Ev _ (.region _ _ true) _ _; refine D_start [50, 51, 82] mix ?_) | (show DrD _ _ _ [] _ _ _ _; refine D_nil ?_; try dsimp only) | (show DrD _ _ _ (⟨_, _, _, _, _, some _⟩ :: _) _ _ _ _; refine D_grdN ?_) | (show DrD _ (EB _ _) _ (_ :: _) _ _ _ _; first | refine D_runL tok ?_ ?_ (h := by intro R; simp (maxSteps := 1000000) (disch := omega) only [go_sem, wrap_i64_id, hg, d1, d2]; with_reducible exact rfl)) | (show DrD _ _ _ (_ :: _) _ _ _ _; refine D_con ?_ ?_) | (show Ev _ _ _ _; first | refine Ev_seq ?_ | refine W_reg ?_ | refine Ev_block ?_ | refine W_ifF ?_ | refine W_ifY ?_ | refine Ev_skip ?_) | (show EvD _ _ [] _ _ _; refine W_nil ?_) | (show EvD _ _ (_ :: _) _ _ _; first | refine W_run tok ?_ ?_ (by simp (maxSteps := 1000000) (disch := omega) only [go_sem, wrap_i64_id, hg, d1, d2]; with_reducible exact rfl)) | refine Q_thenN ?_ | refine Q_blkN ?_ | fail)
   all_goals (try exact sd)
   all_goals (try refine F_done ?_)
   refine Q_rndN ?_ (by omega) ?_
   rotate_left
   ·rfl
   repeat (first | exact LeL.nil | refine LeL.cons2 ?_ (Le.undef _) | refine LeL.cons2 ?_ (Le.refl _) | refine LeL.cons2 ?_ (Le.sl _) | refine LeL.cons2 ?_ (Le.eq (by first | rfl | exact congrArg _ (by omega))) | refine LeL.cons2 ?_ (Le.eq ?_))
  ·obtain ⟨j, rfl⟩ : ∃ j, i = j + 1 := ⟨i - 1, by omega⟩
   have d4 := d3.resolve_left (by simp)
   obtain ⟨k1, v1, hk1, hg1⟩ := pget (P := P) (i := j) (by omega)
   rw [show j + 1 - 1 = j by omega, hk1] at d4
   have e1 : ((j + 1 : Nat) : Int) - 1 = (j : Int) := by omega
   repeat' (first | (show Ev _ (.region _ _ true) _ _; refine D_start [50, 51, 82] mix ?_) | (show DrD _ _ _ [] _ _ _ _; refine D_nil ?_; try dsimp only) | (show DrD _ _ _ (⟨_, _, _, _, _, some _⟩ :: _) _ _ _ _; refine D_grdY ?_) | (show DrD _ (EB _ _) _ (_ :: _) _ _ _ _; first | refine D_runL tok ?_ ?_ (h := by intro R; simp (maxSteps := 1000000) (disch := omega) only [go_sem, wrap_i64_id, hg, hg1, d1, d2, d4, e1]; with_reducible exact rfl)) | (show DrD _ _ _ (_ :: _) _ _ _ _; refine D_con ?_ ?_) | (show Ev _ _ _ _; first | refine Ev_seq ?_ | refine W_reg ?_ | refine Ev_block ?_ | refine W_ifF ?_ | refine W_ifY ?_ | refine Ev_skip ?_) | (show EvD _ _ [] _ _ _; refine W_nil ?_) | (show EvD _ _ (_ :: _) _ _ _; first | refine W_run tok ?_ ?_ (by simp (maxSteps := 1000000) (disch := omega) only [go_sem, wrap_i64_id, hg, hg1, d1, d2, d4, e1]; with_reducible exact rfl)) | refine Q_thenN ?_ | refine Q_blkN ?_ | fail)
   all_goals (try exact sd)
   all_goals (try refine F_done ?_)
   refine Q_rndN ?_ (by omega) ?_
   rotate_left
   ·rfl
   repeat (first | exact LeL.nil | refine LeL.cons2 ?_ (Le.undef _) | refine LeL.cons2 ?_ (Le.refl _) | refine LeL.cons2 ?_ (Le.sl _) | refine LeL.cons2 ?_ (Le.eq (by first | rfl | exact congrArg _ (by omega))) | refine LeL.cons2 ?_ (Le.eq ?_))
 ·obtain rfl : i = m1 := by omega
  by_cases hl : i < P.length
  ·rw [decide_eq_false (by omega : ¬ i = P.length)]
   obtain ⟨k, v, hk, hg⟩ := pget (P := P) (i := i) hl
   have hd := hbad1 hl
   simp only [okP, hk] at hd
   by_cases d1 : decide (keyP k) = true
   ·by_cases d2 : decide (valP v) = true
    ·rw [d1, d2] at hd
     rcases Nat.eq_zero_or_pos i with rfl | h0
     ·simp at hd
     ·obtain ⟨j, rfl⟩ : ∃ j, i = j + 1 := ⟨i - 1, by omega⟩
      obtain ⟨k1, v1, hk1, hg1⟩ := pget (P := P) (i := j) (by omega)
      rw [show j + 1 - 1 = j by omega, hk1, decide_eq_false (by omega : ¬ j + 1 = 0)] at hd
      have d4 : Op.bytesLess k1 k = false := by simpa using hd
      have e1 : ((j + 1 : Nat) : Int) - 1 = (j : Int) := by omega
      repeat' (first | (show Ev _ (.region _ _ true) _ _; refine D_start [50, 51, 82] mix ?_) | (show DrD _ _ _ [] _ _ _ _; refine D_nil ?_; try dsimp only) | (show DrD _ _ _ (⟨_, _, _, _, _, some _⟩ :: _) _ _ _ _; refine D_grdY ?_) | (show DrD _ (EB _ _) _ (_ :: _) _ _ _ _; first | refine D_runL tok ?_ ?_ (h := by intro R; simp (maxSteps := 1000000) (disch := omega) only [go_sem, wrap_i64_id, hg, hg1, d1, d2, d4, e1]; with_reducible exact rfl)) | (show DrD _ _ _ (_ :: _) _ _ _ _; refine D_con ?_ ?_) | (show Ev _ _ _ _; first | refine Ev_seq ?_ | refine W_reg ?_ | refine Ev_block ?_ | refine W_ifT ?_ | refine W_ifY ?_ | refine Ev_skip ?_ | refine Ev_ret ?_) | (show EvD _ _ [] _ _ _; refine W_nil ?_) | (show EvD _ _ (_ :: _) _ _ _; first | refine W_run tok ?_ ?_ (by simp (maxSteps := 1000000) (disch := omega) only [go_sem, wrap_i64_id, hg, hg1, d1, d2, d4, e1]; with_reducible exact rfl)) | (show RetQ _ _ (RP _ _) _ _; refine R_ret ?_ ?_) | refine Q_thenN ?_ | refine Q_thenR ?_ | refine Q_blkR ?_ | refine Q_rndR ?_ | fail)
      all_goals (try exact sd)
      all_goals (try refine F_done ?_)
      all_goals rfl
    ·rw [Bool.not_eq_true] at d2
     repeat' (first | (show Ev _ (.region _ _ true) _ _; refine D_start [50, 51, 82] mix ?_) | (show DrD _ _ _ [] _ _ _ _; refine D_nil ?_; try dsimp only) | (show DrD _ (EB _ _) _ (_ :: _) _ _ _ _; first | refine D_runL tok ?_ ?_ (h := by intro R; simp (maxSteps := 1000000) (disch := omega) only [go_sem, wrap_i64_id, hg, d1, d2]; with_reducible exact rfl)) | (show DrD _ _ _ (_ :: _) _ _ _ _; refine D_con ?_ ?_) | (show Ev _ _ _ _; first | refine Ev_seq ?_ | refine W_reg ?_ | refine Ev_block ?_ | refine W_ifT ?_ | refine W_ifY ?_ | refine Ev_skip ?_ | refine Ev_ret ?_) | (show EvD _ _ [] _ _ _; refine W_nil ?_) | (show EvD _ _ (_ :: _) _ _ _; first | refine W_run tok ?_ ?_ (by simp (maxSteps := 1000000) (disch := omega) only [go_sem, wrap_i64_id, hg, d1, d2]; with_reducible exact rfl)) | (show RetQ _ _ (RP _ _) _ _; refine R_ret ?_ ?_) | refine Q_thenN ?_ | refine Q_thenR ?_ | refine Q_blkR ?_ | refine Q_rndR ?_ | fail)
     all_goals (try exact sd)
     all_goals (try refine F_done ?_)
     all_goals rfl
   ·rw [Bool.not_eq_true] at d1
    repeat' (first | (show Ev _ (.region _ _ true) _ _; refine D_start [50, 51, 82] mix ?_) | (show DrD _ _ _ [] _ _ _ _; refine D_nil ?_; try dsimp only) | (show DrD _ (EB _ _) _ (_ :: _) _ _ _ _; first | refine D_runL tok ?_ ?_ (h := by intro R; simp (maxSteps := 1000000) (disch := omega) only [go_sem, wrap_i64_id, hg, d1]; with_reducible exact rfl)) | (show DrD _ _ _ (_ :: _) _ _ _ _; first | refine D_con ?_ ?_ | refine D_off ?_) | (show Ev _ _ _ _; first | refine Ev_seq ?_ | refine W_reg ?_ | refine Ev_block ?_ | refine W_ifT ?_ | refine W_ifY ?_ | refine Ev_skip ?_ | refine Ev_ret ?_) | (show EvD _ _ [] _ _ _; refine W_nil ?_) | (show EvD _ _ (_ :: _) _ _ _; first | refine W_run tok ?_ ?_ (by simp (maxSteps := 1000000) (disch := omega) only [go_sem, wrap_i64_id, hg, d1]; with_reducible exact rfl)) | (show RetQ _ _ (RP _ _) _ _; refine R_ret ?_ ?_) | refine Q_thenN ?_ | refine Q_thenR ?_ | refine Q_blkR ?_ | refine Q_rndR ?_ | fail)
    all_goals (try exact sd)
    all_goals (try refine F_done ?_)
    all_goals rfl
  ·rw [decide_eq_true (by omega : i = P.length), Bool.true_and]
   clear hgood1 hbad1 hall1 hm1 hi'
   repeat' (first | (show Ev _ _ _ _; first | refine Ev_seq ?_ | refine W_reg ?_ | refine Ev_block ?_ | refine W_ifN ?_ | refine Ev_exit ?_) | (show EvD _ _ [] _ _ _; refine W_nil ?_) | (show EvD _ _ (_ :: _) _ _ _; first | refine W_run tok ?_ ?_ (by simp (maxSteps := 1000000) (disch := omega) only [go_sem, wrap_i64_id]; with_reducible exact rfl)) | refine Q_thenN ?_ | refine Q_thenE ?_ | refine Q_blkE ?_ | refine Q_rndE ?_ | fail)
   all_goals (try exact sd)
   all_goals (try refine F_done ?_)
   refine Ev_lp (m2) (fun i => [(4, i64 i)]) (fun i => ⟨σ.rows, σ.boxes ++ [some ⟨42, [.sl (pairsD P), .sl (strsD K), .sl (kidsD C)]⟩], σ.maps⟩) [2, 52, 53, 54, 55, 56, 57, 58, 59, 60, 61, 62, 63, 64, 65, 66, 67, 68, 69, 70, 71, 72, 73, 74, 75, 76, 77, 78, 79, 80, 81, 82, 83] ?_ (by first | rfl | (simp only [List.take_zero, List.append_nil]; done)) (fun i hi => ?_)
   ·exact le1
   by_cases hi' : i < m2
   ·obtain ⟨k, hk, hg⟩ := kget (K := K) (i := i) (by omega)
    have hd := hgood2 i hi'
    simp only [okK, hk, Bool.and_eq_true, Bool.or_eq_true] at hd
    obtain ⟨d1, d3⟩ := hd
    rcases Nat.eq_zero_or_pos i with rfl | h0
    ·repeat' (first | (show Ev _ (.region _ _ true) _ _; refine D_start [50, 51, 82] mix ?_) | (show DrD _ _ _ [] _ _ _ _; refine D_nil ?_; try dsimp only) | (show DrD _ _ _ (⟨_, _, _, _, _, some _⟩ :: _) _ _ _ _; refine D_grdN ?_) | (show DrD _ (EB _ _) _ (_ :: _) _ _ _ _; first | refine D_runL tok ?_ ?_ (h := by intro R; simp (maxSteps := 1000000) (disch := omega) only [go_sem, wrap_i64_id, hg, d1]; with_reducible exact rfl)) | (show DrD _ _ _ (_ :: _) _ _ _ _; refine D_con ?_ ?_) | (show Ev _ _ _ _; first | refine Ev_seq ?_ | refine W_reg ?_ | refine Ev_block ?_ | refine W_ifF ?_ | refine W_ifY ?_ | refine Ev_skip ?_) | (show EvD _ _ [] _ _ _; refine W_nil ?_) | (show EvD _ _ (_ :: _) _ _ _; first | refine W_run tok ?_ ?_ (by simp (maxSteps := 1000000) (disch := omega) only [go_sem, wrap_i64_id, hg, d1]; with_reducible exact rfl)) | refine Q_thenN ?_ | refine Q_blkN ?_ | fail)
     all_goals (try exact sd)
     all_goals (try refine F_done ?_)
     refine Q_rndN ?_ (by omega) ?_
     rotate_left
     ·rfl
     repeat (first | exact LeL.nil | refine LeL.cons2 ?_ (Le.undef _) | refine LeL.cons2 ?_ (Le.refl _) | refine LeL.cons2 ?_ (Le.sl _) | refine LeL.cons2 ?_ (Le.eq (by first | rfl | exact congrArg _ (by omega))) | refine LeL.cons2 ?_ (Le.eq ?_))
    ·obtain ⟨j, rfl⟩ : ∃ j, i = j + 1 := ⟨i - 1, by omega⟩
     have d4 := d3.resolve_left (by simp)
     obtain ⟨k1, hk1, hg1⟩ := kget (K := K) (i := j) (by omega)
     rw [show j + 1 - 1 = j by omega, hk1] at d4
     have e1 : ((j + 1 : Nat) : Int) - 1 = (j : Int) := by omega
     repeat' (first | (show Ev _ (.region _ _ true) _ _; refine D_start [50, 51, 82] mix ?_) | (show DrD _ _ _ [] _ _ _ _; refine D_nil ?_; try dsimp only) | (show DrD _ _ _ (⟨_, _, _, _, _, some _⟩ :: _) _ _ _ _; refine D_grdY ?_) | (show DrD _ (EB _ _) _ (_ :: _) _ _ _ _; first | refine D_runL tok ?_ ?_ (h := by intro R; simp (maxSteps := 1000000) (disch := omega) only [go_sem, wrap_i64_id, hg, hg1, d1, d4, e1]; with_reducible exact rfl)) | (show DrD _ _ _ (_ :: _) _ _ _ _; refine D_con ?_ ?_) | (show Ev _ _ _ _; first | refine Ev_seq ?_ | refine W_reg ?_ | refine Ev_block ?_ | refine W_ifF ?_ | refine W_ifY ?_ | refine Ev_skip ?_) | (show EvD _ _ [] _ _ _; refine W_nil ?_) | (show EvD _ _ (_ :: _) _ _ _; first | refine W_run tok ?_ ?_ (by simp (maxSteps := 1000000) (disch := omega) only [go_sem, wrap_i64_id, hg, hg1, d1, d4, e1]; with_reducible exact rfl)) | refine Q_thenN ?_ | refine Q_blkN ?_ | fail)
     all_goals (try exact sd)
     all_goals (try refine F_done ?_)
     refine Q_rndN ?_ (by omega) ?_
     rotate_left
     ·rfl
     repeat (first | exact LeL.nil | refine LeL.cons2 ?_ (Le.undef _) | refine LeL.cons2 ?_ (Le.refl _) | refine LeL.cons2 ?_ (Le.sl _) | refine LeL.cons2 ?_ (Le.eq (by first | rfl | exact congrArg _ (by omega))) | refine LeL.cons2 ?_ (Le.eq ?_))
   ·obtain rfl : i = m2 := by omega
    by_cases hl : i < K.length
    ·rw [decide_eq_false (by omega : ¬ i = K.length)]
     obtain ⟨k, hk, hg⟩ := kget (K := K) (i := i) hl
     have hd := hbad2 hl
     simp only [okK, hk] at hd
     by_cases d1 : decide (keyP k) = true
     ·rw [d1] at hd
      rcases Nat.eq_zero_or_pos i with rfl | h0
      ·simp at hd
      ·obtain ⟨j, rfl⟩ : ∃ j, i = j + 1 := ⟨i - 1, by omega⟩
       obtain ⟨k1, hk1, hg1⟩ := kget (K := K) (i := j) (by omega)
       rw [show j + 1 - 1 = j by omega, hk1, decide_eq_false (by omega : ¬ j + 1 = 0)] at hd
       have d4 : Op.bytesLess k1 k = false := by simpa using hd
       have e1 : ((j + 1 : Nat) : Int) - 1 = (j : Int) := by omega
       repeat' (first | (show Ev _ (.region _ _ true) _ _; refine D_start [50, 51, 82] mix ?_) | (show DrD _ _ _ [] _ _ _ _; refine D_nil ?_; try dsimp only) | (show DrD _ _ _ (⟨_, _, _, _, _, some _⟩ :: _) _ _ _ _; refine D_grdY ?_) | (show DrD _ (EB _ _) _ (_ :: _) _ _ _ _; first | refine D_runL tok ?_ ?_ (h := by intro R; simp (maxSteps := 1000000) (disch := omega) only [go_sem, wrap_i64_id, hg, hg1, d1, d4, e1]; with_reducible exact rfl)) | (show DrD _ _ _ (_ :: _) _ _ _ _; refine D_con ?_ ?_) | (show Ev _ _ _ _; first | refine Ev_seq ?_ | refine W_reg ?_ | refine Ev_block ?_ | refine W_ifT ?_ | refine W_ifY ?_ | refine Ev_skip ?_ | refine Ev_ret ?_) | (show EvD _ _ [] _ _ _; refine W_nil ?_) | (show EvD _ _ (_ :: _) _ _ _; first | refine W_run tok ?_ ?_ (by simp (maxSteps := 1000000) (disch := omega) only [go_sem, wrap_i64_id, hg, hg1, d1, d4, e1]; with_reducible exact rfl)) | (show RetQ _ _ (RP _ _) _ _; refine R_ret ?_ ?_) | refine Q_thenN ?_ | refine Q_thenR ?_ | refine Q_blkR ?_ | refine Q_rndR ?_ | fail)
       all_goals (try exact sd)
       all_goals (try refine F_done ?_)
       all_goals rfl
     ·rw [Bool.not_eq_true] at d1
      repeat' (first | (show Ev _ (.region _ _ true) _ _; refine D_start [50, 51, 82] mix ?_) | (show DrD _ _ _ [] _ _ _ _; refine D_nil ?_; try dsimp only) | (show DrD _ (EB _ _) _ (_ :: _) _ _ _ _; first | refine D_runL tok ?_ ?_ (h := by intro R; simp (maxSteps := 1000000) (disch := omega) only [go_sem, wrap_i64_id, hg, d1]; with_reducible exact rfl)) | (show DrD _ _ _ (_ :: _) _ _ _ _; refine D_con ?_ ?_) | (show Ev _ _ _ _; first | refine Ev_seq ?_ | refine W_reg ?_ | refine Ev_block ?_ | refine W_ifT ?_ | refine W_ifY ?_ | refine Ev_skip ?_ | refine Ev_ret ?_) | (show EvD _ _ [] _ _ _; refine W_nil ?_) | (show EvD _ _ (_ :: _) _ _ _; first | refine W_run tok ?_ ?_ (by simp (maxSteps := 1000000) (disch := omega) only [go_sem, wrap_i64_id, hg, d1]; with_reducible exact rfl)) | (show RetQ _ _ (RP _ _) _ _; refine R_ret ?_ ?_) | refine Q_thenN ?_ | refine Q_thenR ?_ | refine Q_blkR ?_ | refine Q_rndR ?_ | fail)
      all_goals (try exact sd)
      all_goals (try refine F_done ?_)
      all_goals rfl
    ·rw [decide_eq_true (by omega : i = K.length), Bool.true_and]
     clear hgood2 hbad2 hall2 hm2 hi'
     repeat' (first | (show Ev _ _ _ _; first | refine Ev_seq ?_ | refine W_reg ?_ | refine Ev_block ?_ | refine W_ifN ?_ | refine Ev_exit ?_) | (show EvD _ _ [] _ _ _; refine W_nil ?_) | (show EvD _ _ (_ :: _) _ _ _; first | refine W_run tok ?_ ?_ (by simp (maxSteps := 1000000) (disch := omega) only [go_sem, wrap_i64_id]; with_reducible exact rfl)) | refine Q_thenN ?_ | refine Q_thenE ?_ | refine Q_blkE ?_ | refine Q_rndE ?_ | fail)
     all_goals (try exact sd)
     all_goals (try refine F_done ?_)
     refine Ev_lp (m3) (fun i => [(5, i64 i)]) (fun i => ⟨σ.rows, σ.boxes ++ [some ⟨42, [.sl (pairsD P), .sl (strsD K), .sl (kidsD C)]⟩], σ.maps⟩) [2, 6, 84, 85, 86, 87, 88, 89, 90, 91, 92, 93, 94, 95, 96, 97, 98, 99, 100, 101, 102, 103, 104, 105, 106, 107, 108, 109, 110, 111, 112, 113, 114, 115, 116, 117, 118, 119, 120] ?_ (by first | rfl | (simp only [List.take_zero, List.append_nil]; done)) (fun i hi => ?_)
     ·exact le1
     by_cases hi' : i < m3
     ·obtain ⟨c, hc, hg⟩ := cget (C := C) (i := i) (by omega)
      have hd := hgood3 i hi'
      simp only [okC, hc, Bool.and_eq_true, decide_eq_true_eq, allN_iff] at hd
      obtain ⟨⟨d1, d2⟩, d3⟩ := hd
      repeat' (first | (show Ev _ _ _ _; first | refine Ev_seq ?_ | refine W_reg ?_ | refine Ev_block ?_ | refine W_ifY ?_ | refine W_ifN ?_ | refine Ev_skip ?_) | (show EvD _ _ [] _ _ _; refine W_nil ?_) | (show EvD _ _ (⟨_, _, _, _, _, some _⟩ :: _) _ _ _; refine W_grdN ?_) | (show EvD _ _ (_ :: _) _ _ _; first | refine W_run tok ?_ ?_ (by simp (maxSteps := 1000000) (disch := omega) only [go_sem, wrap_i64_id, hg]; with_reducible exact rfl)) | refine Q_thenN ?_ | fail)
      all_goals (try exact sd)
      all_goals (try refine F_done ?_)
      refine Ev_lp (i) (fun k => [(6, i64 k)]) (fun k => ⟨σ.rows, σ.boxes ++ [some ⟨42, [.sl (pairsD P), .sl (strsD K), .sl (kidsD C)]⟩], σ.maps⟩) [2, 105, 106, 107, 108, 109, 110, 111, 112, 113, 114, 115, 116, 117, 118, 119, 120] ?_ (by first | rfl | (simp only [List.take_zero, List.append_nil]; done)) (fun k hi => ?_)
      ·exact le1
      by_cases hk' : k < i
      ·obtain ⟨c1, hc1, hg1⟩ := cget (C := C) (i := k) (by omega)
       have d4 := d3 k hk'
       rw [hc1] at d4
       have d5 : decide (c1 = c) = false := by simpa using d4
       repeat' (first | (show Ev _ (.region _ _ true) _ _; refine D_start [50, 51, 82] mix ?_) | (show DrD _ _ _ [] _ _ _ _; refine D_nil ?_; try dsimp only) | (show DrD _ (EB _ _) _ (_ :: _) _ _ _ _; first | refine D_runL tok ?_ ?_ (h := by intro R; simp (maxSteps := 1000000) (disch := omega) only [go_sem, wrap_i64_id, hg, hg1, d5]; with_reducible exact rfl)) | (show Ev _ _ _ _; first | refine Ev_seq ?_ | refine W_reg ?_ | refine Ev_block ?_ | refine W_ifF ?_ | refine W_ifY ?_ | refine Ev_skip ?_) | (show EvD _ _ [] _ _ _; refine W_nil ?_) | (show EvD _ _ (_ :: _) _ _ _; first | refine W_run tok ?_ ?_ (by simp (maxSteps := 1000000) (disch := omega) only [go_sem, wrap_i64_id, hg, hg1, d5]; with_reducible exact rfl)) | refine Q_thenN ?_ | refine Q_blkN ?_ | fail)
       all_goals (try exact sd)
       all_goals (try refine F_done ?_)
       refine Q_rndN ?_ (by omega) ?_
       rotate_left
       ·rfl
       repeat (first | exact LeL.nil | refine LeL.cons2 ?_ (Le.undef _) | refine LeL.cons2 ?_ (Le.refl _) | refine LeL.cons2 ?_ (Le.sl _) | refine LeL.cons2 ?_ (Le.eq (by first | rfl | exact congrArg _ (by omega))) | refine LeL.cons2 ?_ (Le.eq ?_))
      ·obtain rfl : k = i := by omega
       repeat' (first | (show Ev _ _ _ _; first | refine Ev_seq ?_ | refine W_reg ?_ | refine W_ifN ?_ | refine Ev_exit ?_) | (show EvD _ _ [] _ _ _; refine W_nil ?_) | (show EvD _ _ (_ :: _) _ _ _; first | refine W_run tok ?_ ?_ (by simp (maxSteps := 1000000) (disch := omega) only [go_sem, wrap_i64_id]; with_reducible exact rfl)) | refine Q_thenN ?_ | refine Q_thenE ?_ | refine Q_blkN ?_ | refine Q_blkE ?_ | refine Q_rndE ?_ | fail)
       all_goals (try exact sd)
       all_goals (try refine F_done ?_)
       refine Q_rndN ?_ (by omega) ?_
       rotate_left
       ·rfl
       repeat (first | exact LeL.nil | refine LeL.cons2 ?_ (Le.undef _) | refine LeL.cons2 ?_ (Le.refl _) | refine LeL.cons2 ?_ (Le.sl _) | refine LeL.cons2 ?_ (Le.eq (by first | rfl | exact congrArg _ (by omega))) | refine LeL.cons2 ?_ (Le.eq ?_))
     ·obtain rfl : i = m3 := by omega
      by_cases hl : i < C.length
      ·rw [decide_eq_false (by omega : ¬ i = C.length)]
       obtain ⟨c, hc, hg⟩ := cget (C := C) (i := i) hl
       have hd := hbad3 hl
       simp only [okC, hc] at hd
       by_cases d1 : 0 ≤ c
       ·by_cases d2 : c ≤ 199
        ·rw [decide_eq_true d1, decide_eq_true d2] at hd
         obtain ⟨m4, hm4, hgood4, hbad4, hall4⟩ := firstBad i (fun k => !decide (C.getD k 0 = c))
         have hne : m4 < i := by
          rcases Nat.lt_or_ge m4 i with h | h
          ·exact h
          ·rw [hall4, decide_eq_true (by omega : m4 = i)] at hd; simp at hd
         have hb4 := hbad4 hne
         repeat' (first | (show Ev _ _ _ _; first | refine Ev_seq ?_ | refine W_reg ?_ | refine Ev_block ?_ | refine W_ifY ?_ | refine W_ifN ?_ | refine Ev_skip ?_) | (show EvD _ _ [] _ _ _; refine W_nil ?_) | (show EvD _ _ (⟨_, _, _, _, _, some _⟩ :: _) _ _ _; refine W_grdN ?_) | (show EvD _ _ (_ :: _) _ _ _; first | refine W_run tok ?_ ?_ (by simp (maxSteps := 1000000) (disch := omega) only [go_sem, wrap_i64_id, hg]; with_reducible exact rfl)) | refine Q_thenN ?_ | fail)
         all_goals (try exact sd)
         all_goals (try refine F_done ?_)
         refine Ev_lp (m4) (fun k => [(6, i64 k)]) (fun k => ⟨σ.rows, σ.boxes ++ [some ⟨42, [.sl (pairsD P), .sl (strsD K), .sl (kidsD C)]⟩], σ.maps⟩) [2, 105, 106, 107, 108, 109, 110, 111, 112, 113, 114, 115, 116, 117, 118, 119, 120] ?_ (by first | rfl | (simp only [List.take_zero, List.append_nil]; done)) (fun k hi => ?_)
         ·exact le1
         by_cases hk' : k < m4
         ·obtain ⟨c1, hc1, hg1⟩ := cget (C := C) (i := k) (by omega)
          have d4 := hgood4 k hk'
          rw [hc1] at d4
          have d5 : decide (c1 = c) = false := by simpa using d4
          repeat' (first | (show Ev _ (.region _ _ true) _ _; refine D_start [50, 51, 82] mix ?_) | (show DrD _ _ _ [] _ _ _ _; refine D_nil ?_; try dsimp only) | (show DrD _ (EB _ _) _ (_ :: _) _ _ _ _; first | refine D_runL tok ?_ ?_ (h := by intro R; simp (maxSteps := 1000000) (disch := omega) only [go_sem, wrap_i64_id, hg, hg1, d5]; with_reducible exact rfl)) | (show Ev _ _ _ _; first | refine Ev_seq ?_ | refine W_reg ?_ | refine Ev_block ?_ | refine W_ifF ?_ | refine W_ifY ?_ | refine Ev_skip ?_) | (show EvD _ _ [] _ _ _; refine W_nil ?_) | (show EvD _ _ (_ :: _) _ _ _; first | refine W_run tok ?_ ?_ (by simp (maxSteps := 1000000) (disch := omega) only [go_sem, wrap_i64_id, hg, hg1, d5]; with_reducible exact rfl)) | refine Q_thenN ?_ | refine Q_blkN ?_ | fail)
          all_goals (try exact sd)
          all_goals (try refine F_done ?_)
          refine Q_rndN ?_ (by omega) ?_
          rotate_left
          ·rfl
          repeat (first | exact LeL.nil | refine LeL.cons2 ?_ (Le.undef _) | refine LeL.cons2 ?_ (Le.refl _) | refine LeL.cons2 ?_ (Le.sl _) | refine LeL.cons2 ?_ (Le.eq (by first | rfl | exact congrArg _ (by omega))) | refine LeL.cons2 ?_ (Le.eq ?_))
         ·obtain rfl : k = m4 := by omega
          obtain ⟨c1, hc1, hg1⟩ := cget (C := C) (i := k) (by omega)
          rw [hc1] at hb4
          have d5 : decide (c1 = c) = true := by simpa using hb4
          repeat' (first | (show Ev _ (.region _ _ true) _ _; refine D_start [50, 51, 82] mix ?_) | (show DrD _ _ _ [] _ _ _ _; refine D_nil ?_; try dsimp only) | (show DrD _ (EB _ _) _ (_ :: _) _ _ _ _; first | refine D_runL tok ?_ ?_ (h := by intro R; simp (maxSteps := 1000000) (disch := omega) only [go_sem, wrap_i64_id, hg, hg1, d5]; with_reducible exact rfl)) | (show Ev _ _ _ _; first | refine Ev_seq ?_ | refine W_reg ?_ | refine Ev_block ?_ | refine W_ifT ?_ | refine W_ifY ?_ | refine Ev_skip ?_ | refine Ev_ret ?_) | (show EvD _ _ [] _ _ _; refine W_nil ?_) | (show EvD _ _ (_ :: _) _ _ _; first | refine W_run tok ?_ ?_ (by simp (maxSteps := 1000000) (disch := omega) only [go_sem, wrap_i64_id, hg, hg1, d5]; with_reducible exact rfl)) | (show RetQ _ _ (RP _ _) _ _; refine R_ret ?_ ?_) | refine Q_thenN ?_ | refine Q_thenR ?_ | refine Q_blkR ?_ | refine Q_rndR ?_ | fail)
          all_goals (try exact sd)
          all_goals (try refine F_done ?_)
          all_goals rfl
        ·repeat' (first | (show Ev _ _ _ _; first | refine Ev_seq ?_ | refine W_reg ?_ | refine Ev_block ?_ | refine W_ifY ?_ | refine Ev_skip ?_ | refine Ev_ret ?_) | (show EvD _ _ [] _ _ _; refine W_nil ?_) | (show EvD _ _ (⟨_, _, _, _, _, some _⟩ :: _) _ _ _; refine W_grdN ?_) | (show EvD _ _ (_ :: _) _ _ _; first | refine W_run tok ?_ ?_ (by simp (maxSteps := 1000000) (disch := omega) only [go_sem, wrap_i64_id, hg]; with_reducible exact rfl)) | (show RetQ _ _ (RP _ _) _ _; refine R_ret ?_ ?_) | refine Q_thenN ?_ | refine Q_thenR ?_ | refine Q_blkR ?_ | refine Q_rndR ?_ | fail)
         all_goals (try exact sd)
         all_goals (try refine F_done ?_)
         all_goals rfl
       ·repeat' (first | (show Ev _ _ _ _; first | refine Ev_seq ?_ | refine W_reg ?_ | refine Ev_block ?_ | refine W_ifT ?_ | refine W_ifY ?_ | refine Ev_skip ?_ | refine Ev_ret ?_) | (show EvD _ _ [] _ _ _; refine W_nil ?_) | (show EvD _ _ (⟨_, _, _, _, _, some _⟩ :: _) _ _ _; refine W_grdY ?_) | (show EvD _ _ (_ :: _) _ _ _; first | refine W_run tok ?_ ?_ (by simp (maxSteps := 1000000) (disch := omega) only [go_sem, wrap_i64_id, hg]; with_reducible exact rfl)) | (show RetQ _ _ (RP _ _) _ _; refine R_ret ?_ ?_) | refine Q_thenN ?_ | refine Q_thenR ?_ | refine Q_blkR ?_ | refine Q_rndR ?_ | fail)
        all_goals (try exact sd)
        all_goals (try refine F_done ?_)
        all_goals rfl
      ·rw [decide_eq_true (by omega : i = C.length), Bool.true_and]
       clear hgood3 hbad3 hall3 hm3 hi'
       by_cases z0 : C.length = 0
       ·have f0 : decide ((C.length : Int) = 0) = true := by rw [z0]; rfl
        have hS : shapeN P K C = (decide (K.length = 0) && decide (P.length ≤ 5)) := by unfold shapeN; rw [if_pos z0]
        rw [hS]
        by_cases z1 : K.length = 0
        ·have f1 : decide ((K.length : Int) = 0) = true := by rw [z1]; rfl
         repeat' (first | (show Ev _ _ _ _; first | refine Ev_seq ?_ | refine W_reg ?_ | refine W_ifT ?_ | refine W_ifN ?_ | refine Ev_exit ?_ | refine Ev_ret ?_) | (show EvD _ _ [] _ _ _; refine W_nil ?_) | (show EvD _ _ (_ :: _) _ _ _; first | refine W_run tok ?_ ?_ (by simp (maxSteps := 1000000) (disch := omega) only [go_sem, wrap_i64_id, f0, f1]; with_reducible exact rfl)) | (show RetQ _ _ (RP _ _) _ _; refine R_ret ?_ ?_) | refine Q_thenN ?_ | refine Q_thenE ?_ | refine Q_thenR ?_ | refine Q_blkE ?_ | refine Q_rndE ?_ | fail)
         all_goals (try exact sd)
         all_goals (try refine F_done ?_)
         all_goals (simp [z1]; try omega)
        ·have f1 : decide ((K.length : Int) = 0) = false := decide_eq_false (by omega)
         repeat' (first | (show Ev _ _ _ _; first | refine Ev_seq ?_ | refine W_reg ?_ | refine W_ifT ?_ | refine W_ifN ?_ | refine Ev_exit ?_ | refine Ev_ret ?_) | (show EvD _ _ [] _ _ _; refine W_nil ?_) | (show EvD _ _ (_ :: _) _ _ _; first | refine W_run tok ?_ ?_ (by simp (maxSteps := 1000000) (disch := omega) only [go_sem, wrap_i64_id, f0, f1]; with_reducible exact rfl)) | (show RetQ _ _ (RP _ _) _ _; refine R_ret ?_ ?_) | refine Q_thenN ?_ | refine Q_thenE ?_ | refine Q_thenR ?_ | refine Q_blkE ?_ | refine Q_rndE ?_ | fail)
         all_goals (try exact sd)
         all_goals (try refine F_done ?_)
         all_goals (simp [z1]; try omega)
       ·have f0 : decide ((C.length : Int) = 0) = false := decide_eq_false (by omega)
        have hS : shapeN P K C = (decide (P.length = 0) && decide (2 ≤ C.length) && decide (C.length ≤ 8) && decide (K.length = C.length - 1)) := by unfold shapeN; rw [if_neg z0]
        rw [hS]
        by_cases z1 : P.length = 0
        ·have f1 : decide ((P.length : Int) = 0) = true := by rw [z1]; rfl
         by_cases z2 : 2 ≤ C.length
         ·have f2 : decide ((2 : Int) ≤ (C.length : Int)) = true := decide_eq_true (by omega)
          by_cases z3 : C.length ≤ 8
          ·have f3 : decide ((C.length : Int) ≤ 8) = true := decide_eq_true (by omega)
           repeat' (first | (show Ev _ _ _ _; first | refine Ev_seq ?_ | refine W_reg ?_ | refine W_ifF ?_ | refine W_ifN ?_ | refine Ev_skip ?_ | refine Ev_exit ?_ | refine Ev_ret ?_) | (show EvD _ _ [] _ _ _; refine W_nil ?_) | (show EvD _ _ (_ :: _) _ _ _; first | refine W_run tok ?_ ?_ (by simp (maxSteps := 1000000) (disch := omega) only [go_sem, wrap_i64_id, f0, f1, f2, f3]; with_reducible exact rfl)) | (show RetQ _ _ (RP _ _) _ _; refine R_ret ?_ ?_) | refine Q_thenN ?_ | refine Q_thenE ?_ | refine Q_blkE ?_ | refine Q_rndE ?_ | fail)
           all_goals (try exact sd)
           all_goals (try refine F_done ?_)
           all_goals (simp [z1, z2, z3]; try omega)
          ·have f3 : decide ((C.length : Int) ≤ 8) = false := decide_eq_false (by omega)
           repeat' (first | (show Ev _ _ _ _; first | refine Ev_seq ?_ | refine W_reg ?_ | refine W_ifF ?_ | refine W_ifN ?_ | refine Ev_skip ?_ | refine Ev_exit ?_ | refine Ev_ret ?_) | (show EvD _ _ [] _ _ _; refine W_nil ?_) | (show EvD _ _ (_ :: _) _ _ _; first | refine W_run tok ?_ ?_ (by simp (maxSteps := 1000000) (disch := omega) only [go_sem, wrap_i64_id, f0, f1, f2, f3]; with_reducible exact rfl)) | (show RetQ _ _ (RP _ _) _ _; refine R_ret ?_ ?_) | refine Q_thenN ?_ | refine Q_thenE ?_ | refine Q_blkE ?_ | refine Q_rndE ?_ | fail)
           all_goals (try exact sd)
           all_goals (try refine F_done ?_)
           all_goals (simp [z1, z2, z3])
         ·have f2 : decide ((2 : Int) ≤ (C.length : Int)) = false := decide_eq_false (by omega)
          repeat' (first | (show Ev _ _ _ _; first | refine Ev_seq ?_ | refine W_reg ?_ | refine W_ifF ?_ | refine W_ifN ?_ | refine Ev_skip ?_ | refine Ev_exit ?_ | refine Ev_ret ?_) | (show EvD _ _ [] _ _ _; refine W_nil ?_) | (show EvD _ _ (_ :: _) _ _ _; first | refine W_run tok ?_ ?_ (by simp (maxSteps := 1000000) (disch := omega) only [go_sem, wrap_i64_id, f0, f1, f2]; with_reducible exact rfl)) | (show RetQ _ _ (RP _ _) _ _; refine R_ret ?_ ?_) | refine Q_thenN ?_ | refine Q_thenE ?_ | refine Q_blkE ?_ | refine Q_rndE ?_ | fail)
          all_goals (try exact sd)
          all_goals (try refine F_done ?_)
          all_goals (simp [z1, z2])
        ·have f1 : decide ((P.length : Int) = 0) = false := decide_eq_false (by omega)
         repeat' (first | (show Ev _ _ _ _; first | refine Ev_seq ?_ | refine W_reg ?_ | refine W_ifF ?_ | refine W_ifN ?_ | refine Ev_skip ?_ | refine Ev_exit ?_ | refine Ev_ret ?_) | (show EvD _ _ [] _ _ _; refine W_nil ?_) | (show EvD _ _ (_ :: _) _ _ _; first | refine W_run tok ?_ ?_ (by simp (maxSteps := 1000000) (disch := omega) only [go_sem, wrap_i64_id, f0, f1]; with_reducible exact rfl)) | (show RetQ _ _ (RP _ _) _ _; refine R_ret ?_ ?_) | refine Q_thenN ?_ | refine Q_thenE ?_ | refine Q_blkE ?_ | refine Q_rndE ?_ | fail)
         all_goals (try exact sd)
         all_goals (try refine F_done ?_)
         all_goals (simp [z1]; try omega)
instance i_bursarref08_May (P : List PairB) (K : List (List UInt8)) (C : List Int) : Con Try.prog 25 [nodeD P K C] (P.length < 1099511627776 ∧ K.length < 1099511627776 ∧ C.length < 1099511627776) (.bool (mayN P K C)) := ⟨c_bursarref08_May P  K  C ⟩
end Go.Val.Ytgjmpefhjdgkoaa
