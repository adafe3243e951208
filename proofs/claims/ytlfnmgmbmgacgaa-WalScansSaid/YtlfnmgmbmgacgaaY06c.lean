/- Chapter 06: the document's logs, walked. -/
import Derived.Test.YtlfnmgmbmgacgaaY06b
namespace Go.Val.Ytlfnmgmbmgacgaa
open Go Go.Val Go.Proofs Go.Proofs.Ytlfnmgmbmgacgaa
attribute [local irreducible] Ev EvD EvC thenQ blockQ RoundG RetQ
set_option maxRecDepth 100000
set_option maxHeartbeats 4000000
set_option linter.unusedSimpArgs false
set_option linter.unusedVariables false
theorem c_bursarref06_May (S : List (List UInt8)) (W : List (Int × List UInt8)) (L : Int) (O : Bool) (f l a n : Int) (hC : szP S W) : Pure Try.prog n_bursarref06_May [diskD S W L O, logD f l a n] (.bool (decide (mayL S W L f l a n))) := by
 refine Pure.go tok (rs := [.tmp 4]) [diskD S W L O, logD f l a n, .undef, .undef, .undef, .undef, .undef, .undef, .undef, .undef, .undef, .undef, .undef, .undef, .undef, .undef, .undef, .undef, .undef, .undef, .undef, .undef, .undef, .undef, .undef, .undef, .undef, .undef, .undef, .undef, .undef, .undef, .undef, .undef, .undef, .undef, .undef, .undef, .undef, .undef, .undef, .undef, .undef, .undef, .undef, .undef, .undef, .undef, .undef, .undef, .undef, .undef, .undef, .undef, .undef, .undef, .undef, .undef, .undef, .undef] Try.func14 (fun σ => ?_)
 by_cases hm : mayP S W L
 ·have hmS := hm.1
  by_cases h1 : 0 ≤ f
  ·by_cases h2 : f ≤ 4096
   ·by_cases h3 : 2 ≤ l
    ·by_cases h4 : l ≤ 4096
     ·by_cases h5 : f + l ≤ S.length
      ·by_cases h6 : 0 ≤ a
       ·by_cases h7 : a < l
        ·by_cases h8 : 1 ≤ n
         ·repeat' (first | (show Ev _ _ _ _; first | refine Ev_seq ?_ | refine W_reg ?_ | refine Ev_ret ?_) | (show EvD _ _ [] _ _ _; refine W_nil ?_) | (show EvD _ _ (⟨_, _, _, _, _, some _⟩ :: _) _ _ _; refine W_grdY ?_) | (show EvD _ _ (_ :: _) _ _ _; first | refine W_run tok ?_ ?_ (by simp (maxSteps := 1000000) (disch := omega) only [go_sem, wrap_i64_id]; with_reducible exact rfl) | refine W_callee ?_) | (show EvC _ _ _ _ _ _ _ _ _; refine W_con ?_ ?_) | (show RetQ _ _ (RP _ _) _ _; refine R_ret ?_ ?_) | refine Q_thenN ?_ | fail)
          all_goals (try exact sd)
          all_goals (try refine F_done ?_)
          all_goals (exact congrArg DV.bool (by rw [decide_eq_decide]; unfold mayL; constructor <;> intro h <;> (try omega); exact ⟨hm, by omega, by omega, by omega, by omega, by omega, by omega, by omega, by omega⟩))
         ·repeat' (first | (show Ev _ _ _ _; first | refine Ev_seq ?_ | refine W_reg ?_ | refine Ev_ret ?_) | (show EvD _ _ [] _ _ _; refine W_nil ?_) | (show EvD _ _ (⟨_, _, _, _, _, some _⟩ :: _) _ _ _; first | refine W_grdY ?_ | refine W_grdN ?_) | (show EvD _ _ (_ :: _) _ _ _; first | refine W_run tok ?_ ?_ (by simp (maxSteps := 1000000) (disch := omega) only [go_sem, wrap_i64_id]; with_reducible exact rfl) | refine W_callee ?_) | (show EvC _ _ _ _ _ _ _ _ _; refine W_con ?_ ?_) | (show RetQ _ _ (RP _ _) _ _; refine R_ret ?_ ?_) | refine Q_thenN ?_ | fail)
          all_goals (try exact sd)
          all_goals (try refine F_done ?_)
          all_goals (simp [mayL, h8])
        ·repeat' (first | (show Ev _ _ _ _; first | refine Ev_seq ?_ | refine W_reg ?_ | refine Ev_ret ?_) | (show EvD _ _ [] _ _ _; refine W_nil ?_) | (show EvD _ _ (⟨_, _, _, _, _, some _⟩ :: _) _ _ _; first | refine W_grdY ?_ | refine W_grdN ?_) | (show EvD _ _ (_ :: _) _ _ _; first | refine W_run tok ?_ ?_ (by simp (maxSteps := 1000000) (disch := omega) only [go_sem, wrap_i64_id]; with_reducible exact rfl) | refine W_callee ?_) | (show EvC _ _ _ _ _ _ _ _ _; refine W_con ?_ ?_) | (show RetQ _ _ (RP _ _) _ _; refine R_ret ?_ ?_) | refine Q_thenN ?_ | fail)
         all_goals (try exact sd)
         all_goals (try refine F_done ?_)
         all_goals (simp [mayL, h7])
       ·repeat' (first | (show Ev _ _ _ _; first | refine Ev_seq ?_ | refine W_reg ?_ | refine Ev_ret ?_) | (show EvD _ _ [] _ _ _; refine W_nil ?_) | (show EvD _ _ (⟨_, _, _, _, _, some _⟩ :: _) _ _ _; first | refine W_grdY ?_ | refine W_grdN ?_) | (show EvD _ _ (_ :: _) _ _ _; first | refine W_run tok ?_ ?_ (by simp (maxSteps := 1000000) (disch := omega) only [go_sem, wrap_i64_id]; with_reducible exact rfl) | refine W_callee ?_) | (show EvC _ _ _ _ _ _ _ _ _; refine W_con ?_ ?_) | (show RetQ _ _ (RP _ _) _ _; refine R_ret ?_ ?_) | refine Q_thenN ?_ | fail)
        all_goals (try exact sd)
        all_goals (try refine F_done ?_)
        all_goals (simp [mayL, h6])
      ·repeat' (first | (show Ev _ _ _ _; first | refine Ev_seq ?_ | refine W_reg ?_ | refine Ev_ret ?_) | (show EvD _ _ [] _ _ _; refine W_nil ?_) | (show EvD _ _ (⟨_, _, _, _, _, some _⟩ :: _) _ _ _; first | refine W_grdY ?_ | refine W_grdN ?_) | (show EvD _ _ (_ :: _) _ _ _; first | refine W_run tok ?_ ?_ (by simp (maxSteps := 1000000) (disch := omega) only [go_sem, wrap_i64_id]; with_reducible exact rfl) | refine W_callee ?_) | (show EvC _ _ _ _ _ _ _ _ _; refine W_con ?_ ?_) | (show RetQ _ _ (RP _ _) _ _; refine R_ret ?_ ?_) | refine Q_thenN ?_ | fail)
       all_goals (try exact sd)
       all_goals (try refine F_done ?_)
       all_goals (exact congrArg DV.bool (by symm; rw [decide_eq_false_iff_not]; unfold mayL; omega))
     ·repeat' (first | (show Ev _ _ _ _; first | refine Ev_seq ?_ | refine W_reg ?_ | refine Ev_ret ?_) | (show EvD _ _ [] _ _ _; refine W_nil ?_) | (show EvD _ _ (⟨_, _, _, _, _, some _⟩ :: _) _ _ _; first | refine W_grdY ?_ | refine W_grdN ?_) | (show EvD _ _ (_ :: _) _ _ _; first | refine W_run tok ?_ ?_ (by simp (maxSteps := 1000000) (disch := omega) only [go_sem, wrap_i64_id]; with_reducible exact rfl) | refine W_callee ?_) | (show EvC _ _ _ _ _ _ _ _ _; refine W_con ?_ ?_) | (show RetQ _ _ (RP _ _) _ _; refine R_ret ?_ ?_) | refine Q_thenN ?_ | fail)
      all_goals (try exact sd)
      all_goals (try refine F_done ?_)
      all_goals (exact congrArg DV.bool (by symm; rw [decide_eq_false_iff_not]; unfold mayL; omega))
    ·repeat' (first | (show Ev _ _ _ _; first | refine Ev_seq ?_ | refine W_reg ?_ | refine Ev_ret ?_) | (show EvD _ _ [] _ _ _; refine W_nil ?_) | (show EvD _ _ (⟨_, _, _, _, _, some _⟩ :: _) _ _ _; first | refine W_grdY ?_ | refine W_grdN ?_) | (show EvD _ _ (_ :: _) _ _ _; first | refine W_run tok ?_ ?_ (by simp (maxSteps := 1000000) (disch := omega) only [go_sem, wrap_i64_id]; with_reducible exact rfl) | refine W_callee ?_) | (show EvC _ _ _ _ _ _ _ _ _; refine W_con ?_ ?_) | (show RetQ _ _ (RP _ _) _ _; refine R_ret ?_ ?_) | refine Q_thenN ?_ | fail)
     all_goals (try exact sd)
     all_goals (try refine F_done ?_)
     all_goals (simp [mayL, h3])
   ·repeat' (first | (show Ev _ _ _ _; first | refine Ev_seq ?_ | refine W_reg ?_ | refine Ev_ret ?_) | (show EvD _ _ [] _ _ _; refine W_nil ?_) | (show EvD _ _ (⟨_, _, _, _, _, some _⟩ :: _) _ _ _; first | refine W_grdY ?_ | refine W_grdN ?_) | (show EvD _ _ (_ :: _) _ _ _; first | refine W_run tok ?_ ?_ (by simp (maxSteps := 1000000) (disch := omega) only [go_sem, wrap_i64_id]; with_reducible exact rfl) | refine W_callee ?_) | (show EvC _ _ _ _ _ _ _ _ _; refine W_con ?_ ?_) | (show RetQ _ _ (RP _ _) _ _; refine R_ret ?_ ?_) | refine Q_thenN ?_ | fail)
    all_goals (try exact sd)
    all_goals (try refine F_done ?_)
    all_goals (exact congrArg DV.bool (by symm; rw [decide_eq_false_iff_not]; unfold mayL; omega))
  ·repeat' (first | (show Ev _ _ _ _; first | refine Ev_seq ?_ | refine W_reg ?_ | refine Ev_ret ?_) | (show EvD _ _ [] _ _ _; refine W_nil ?_) | (show EvD _ _ (⟨_, _, _, _, _, some _⟩ :: _) _ _ _; first | refine W_grdY ?_ | refine W_grdN ?_) | (show EvD _ _ (_ :: _) _ _ _; first | refine W_run tok ?_ ?_ (by simp (maxSteps := 1000000) (disch := omega) only [go_sem, wrap_i64_id]; with_reducible exact rfl) | refine W_callee ?_) | (show EvC _ _ _ _ _ _ _ _ _; refine W_con ?_ ?_) | (show RetQ _ _ (RP _ _) _ _; refine R_ret ?_ ?_) | refine Q_thenN ?_ | fail)
   all_goals (try exact sd)
   all_goals (try refine F_done ?_)
   all_goals (simp [mayL, h1])
 ·repeat' (first | (show Ev _ _ _ _; first | refine Ev_seq ?_ | refine W_reg ?_ | refine Ev_ret ?_) | (show EvD _ _ [] _ _ _; refine W_nil ?_) | (show EvD _ _ (⟨_, _, _, _, _, some _⟩ :: _) _ _ _; refine W_grdN ?_) | (show EvD _ _ (_ :: _) _ _ _; first | refine W_run tok ?_ ?_ (by simp (maxSteps := 1000000) (disch := omega) only [go_sem, wrap_i64_id]; with_reducible exact rfl) | refine W_callee ?_) | (show EvC _ _ _ _ _ _ _ _ _; refine W_con ?_ ?_) | (show RetQ _ _ (RP _ _) _ _; refine R_ret ?_ ?_) | refine Q_thenN ?_ | fail)
  all_goals (try exact sd)
  all_goals (try refine F_done ?_)
  all_goals (simp [mayL, hm])
instance i_bursarref06_May (S : List (List UInt8)) (W : List (Int × List UInt8)) (L : Int) (O : Bool) (f l a n : Int) : Con Try.prog 14 [diskD S W L O, logD f l a n] (szP S W) (.bool (decide (mayL S W L f l a n))) := ⟨c_bursarref06_May S  W  L  O  f l a n ⟩
theorem c_bursarref06_Room (f l a x n : Int) (hC : l < 9223372036854775808) : Pure Try.prog n_bursarref06_Room [logD f l a x, .int .i64 n] (.bool (decide (roomL l a n))) := by
 refine Pure.go tok (rs := [.tmp 4]) [logD f l a x, .int .i64 n, .undef, .undef, .undef, .undef, .undef, .undef, .undef, .undef, .undef, .undef, .undef, .undef, .undef, .undef, .undef, .undef, .undef, .undef, .undef, .undef, .undef, .undef, .undef, .undef, .undef, .undef, .undef, .undef, .undef, .undef, .undef, .undef, .undef, .undef, .undef, .undef, .undef, .undef, .undef, .undef, .undef] Try.func16 (fun σ => ?_)
 by_cases h1 : 0 ≤ n
 ·by_cases h2 : n ≤ 6000
  ·by_cases h3 : 2 ≤ l
   ·by_cases h4 : 0 ≤ a
    ·by_cases h5 : a < l
     ·obtain ⟨k, rfl⟩ := Int.eq_ofNat_of_zero_le h1
      have hs : secI (k : Int) = (((k + 83) / 64 : Nat) : Int) := by unfold secI; rw [if_pos (by omega)]; rfl
      obtain ⟨m, hm⟩ : ∃ m, m = (k + 83) / 64 - 1 := ⟨_, rfl⟩
      have hm2 : (k + 83) / 64 = m + 1 := by omega
      have hk : k ≤ 6000 := by omega
      have hR : decide (roomL l a (k : Int)) = decide (((m + 1 : Nat) : Int) < l - a) := by
       rw [decide_eq_decide]; unfold roomL; rw [hs, hm2]; omega
      rw [hR]
      repeat' (first | (show Ev _ _ _ _; first | refine Ev_seq ?_ | refine W_reg ?_ | refine Ev_block ?_ | refine W_ifN ?_ | refine Ev_skip ?_) | (show EvD _ _ [] _ _ _; refine W_nil ?_) | (show EvD _ _ (⟨_, _, _, _, _, some _⟩ :: _) _ _ _; refine W_grdN ?_) | (show EvD _ _ (_ :: _) _ _ _; first | refine W_run tok ?_ ?_ (by simp (maxSteps := 1000000) (disch := omega) only [go_sem, wrap_i64_id]; with_reducible exact rfl)) | refine Q_thenN ?_ | fail)
      all_goals (try exact sd)
      all_goals (try refine F_done ?_)
      refine Ev_lp (m) (fun i => [(5, i64 (i + 1))]) (fun i => ⟨σ.rows, σ.boxes ++ [some ⟨27, [.int .i64 f, .int .i64 l, .int .i64 a, .int .i64 x]⟩], σ.maps⟩) [29, 30, 31, 32, 33, 34, 35] ?_ (by first | rfl | (simp only [List.take_zero, List.append_nil]; done)) (fun i hi => ?_)
      ·exact le1
      by_cases hi' : i < m
      ·have c1 : decide ((64 : Int) * ((i + 1 : Nat) : Int) < 20 + (k : Int)) = true := decide_eq_true (by omega)
       repeat' (first | (show Ev _ _ _ _; first | refine Ev_seq ?_ | refine W_reg ?_ | refine Ev_block ?_ | refine W_ifT ?_ | refine Ev_skip ?_) | (show EvD _ _ [] _ _ _; refine W_nil ?_) | (show EvD _ _ (_ :: _) _ _ _; first | refine W_run tok ?_ ?_ (by simp (maxSteps := 1000000) (disch := omega) only [go_sem, wrap_i64_id, c1]; with_reducible exact rfl)) | refine Q_thenN ?_ | refine Q_blkN ?_ | fail)
       all_goals (try exact sd)
       all_goals (try refine F_done ?_)
       refine Q_rndN ?_ (by omega) ?_
       rotate_left
       ·rfl
       repeat (first | exact LeL.nil | refine LeL.cons2 ?_ (Le.undef _) | refine LeL.cons2 ?_ (Le.refl _) | refine LeL.cons2 ?_ (Le.sl _) | refine LeL.cons2 ?_ (Le.eq (by first | rfl | exact congrArg _ (by omega))) | refine LeL.cons2 ?_ (Le.eq ?_))
       all_goals trace_state
      ·obtain rfl : i = m := by omega
       have c1 : decide ((64 : Int) * ((i + 1 : Nat) : Int) < 20 + (k : Int)) = false := decide_eq_false (by omega)
       repeat' (first | (show Ev _ _ _ _; first | refine Ev_seq ?_ | refine W_reg ?_ | refine W_ifF ?_ | refine Ev_exit ?_ | refine Ev_ret ?_) | (show EvD _ _ [] _ _ _; refine W_nil ?_) | (show EvD _ _ (_ :: _) _ _ _; first | refine W_run tok ?_ ?_ (by simp (maxSteps := 1000000) (disch := omega) only [go_sem, wrap_i64_id, c1]; with_reducible exact rfl)) | (show RetQ _ _ (RP _ _) _ _; refine R_ret ?_ ?_) | refine Q_thenN ?_ | refine Q_thenE ?_ | refine Q_blkE ?_ | refine Q_rndE ?_ | fail)
       all_goals (try exact sd)
       all_goals (try refine F_done ?_)
       all_goals (first | rfl | (congr 1; rw [decide_eq_decide]; omega) | trace_state)
     ·repeat' (first | (show Ev _ _ _ _; first | refine Ev_seq ?_ | refine W_reg ?_ | refine W_ifY ?_ | refine Ev_ret ?_) | (show EvD _ _ [] _ _ _; refine W_nil ?_) | (show EvD _ _ (⟨_, _, _, _, _, some _⟩ :: _) _ _ _; refine W_grdN ?_) | (show EvD _ _ (_ :: _) _ _ _; first | refine W_run tok ?_ ?_ (by simp (maxSteps := 1000000) (disch := omega) only [go_sem, wrap_i64_id]; with_reducible exact rfl)) | (show RetQ _ _ (RP _ _) _ _; refine R_ret ?_ ?_) | refine Q_thenN ?_ | refine Q_thenR ?_ | fail)
      all_goals (try exact sd)
      all_goals (try refine F_done ?_)
      all_goals (simp [roomL, h5])
    ·repeat' (first | (show Ev _ _ _ _; first | refine Ev_seq ?_ | refine W_reg ?_ | refine W_ifT ?_ | refine Ev_ret ?_) | (show EvD _ _ [] _ _ _; refine W_nil ?_) | (show EvD _ _ (⟨_, _, _, _, _, some _⟩ :: _) _ _ _; first | refine W_grdY ?_ | refine W_grdN ?_) | (show EvD _ _ (_ :: _) _ _ _; first | refine W_run tok ?_ ?_ (by simp (maxSteps := 1000000) (disch := omega) only [go_sem, wrap_i64_id]; with_reducible exact rfl)) | (show RetQ _ _ (RP _ _) _ _; refine R_ret ?_ ?_) | refine Q_thenN ?_ | refine Q_thenR ?_ | fail)
     all_goals (try exact sd)
     all_goals (try refine F_done ?_)
     all_goals (simp [roomL, h4])
   ·repeat' (first | (show Ev _ _ _ _; first | refine Ev_seq ?_ | refine W_reg ?_ | refine W_ifT ?_ | refine Ev_ret ?_) | (show EvD _ _ [] _ _ _; refine W_nil ?_) | (show EvD _ _ (⟨_, _, _, _, _, some _⟩ :: _) _ _ _; first | refine W_grdY ?_ | refine W_grdN ?_) | (show EvD _ _ (_ :: _) _ _ _; first | refine W_run tok ?_ ?_ (by simp (maxSteps := 1000000) (disch := omega) only [go_sem, wrap_i64_id]; with_reducible exact rfl)) | (show RetQ _ _ (RP _ _) _ _; refine R_ret ?_ ?_) | refine Q_thenN ?_ | refine Q_thenR ?_ | fail)
    all_goals (try exact sd)
    all_goals (try refine F_done ?_)
    all_goals (simp [roomL, h3])
  ·have hs : secI n = 0 := by unfold secI; rw [if_neg (by omega)]
   repeat' (first | (show Ev _ _ _ _; first | refine Ev_seq ?_ | refine W_reg ?_ | refine W_ifT ?_ | refine Ev_ret ?_) | (show EvD _ _ [] _ _ _; refine W_nil ?_) | (show EvD _ _ (⟨_, _, _, _, _, some _⟩ :: _) _ _ _; first | refine W_grdY ?_ | refine W_grdN ?_) | (show EvD _ _ (_ :: _) _ _ _; first | refine W_run tok ?_ ?_ (by simp (maxSteps := 1000000) (disch := omega) only [go_sem, wrap_i64_id]; with_reducible exact rfl)) | (show RetQ _ _ (RP _ _) _ _; refine R_ret ?_ ?_) | refine Q_thenN ?_ | refine Q_thenR ?_ | fail)
   all_goals (try exact sd)
   all_goals (try refine F_done ?_)
   all_goals (simp [roomL, hs])
 ·have hs : secI n = 0 := by unfold secI; rw [if_neg (by omega)]
  repeat' (first | (show Ev _ _ _ _; first | refine Ev_seq ?_ | refine W_reg ?_ | refine W_ifT ?_ | refine Ev_ret ?_) | (show EvD _ _ [] _ _ _; refine W_nil ?_) | (show EvD _ _ (⟨_, _, _, _, _, some _⟩ :: _) _ _ _; refine W_grdY ?_) | (show EvD _ _ (_ :: _) _ _ _; first | refine W_run tok ?_ ?_ (by simp (maxSteps := 1000000) (disch := omega) only [go_sem, wrap_i64_id]; with_reducible exact rfl)) | (show RetQ _ _ (RP _ _) _ _; refine R_ret ?_ ?_) | refine Q_thenN ?_ | refine Q_thenR ?_ | fail)
  all_goals (try exact sd)
  all_goals (try refine F_done ?_)
  all_goals (simp [roomL, hs])
instance i_bursarref06_Room (f l a x n : Int) : Con Try.prog 16 [logD f l a x, .int .i64 n] (l < 9223372036854775808) (.bool (decide (roomL l a n))) := ⟨c_bursarref06_Room f l a x n ⟩
attribute [local irreducible] nought64
theorem c_bursarref06_noughts  (hC : True) : Pure Try.prog n_bursarref06_noughts [] (.str nought64) := by
 refine Pure.go tok (rs := [.tmp 0]) [.undef, .undef, .undef] Try.func34 (fun σ => ?_)
 have hl : nought64.length = 64 := by unfold nought64; simp
 repeat' (first | (show Ev _ _ _ _; first | refine Ev_seq ?_ | refine W_reg ?_ | refine Ev_ret ?_) | (show EvD _ _ [] _ _ _; refine W_nil ?_) | (show EvD _ _ (_ :: _) _ _ _; first | refine W_run tok ?_ ?_ (by simp (maxSteps := 1000000) (disch := omega) only [go_sem, nrep, nrep2]; with_reducible exact rfl)) | (show RetQ _ _ (RP _ _) _ _; refine R_ret ?_ ?_) | refine Q_thenN ?_ | fail)
 all_goals (try exact sd)
 all_goals (try refine F_done ?_)
 all_goals first | rfl | exact hl | trace_state
instance i_bursarref06_noughts  : Con Try.prog 34 [] (True) (.str nought64) := ⟨c_bursarref06_noughts ⟩
theorem con_wrR {m : Nat} {at_ : Int} {b : List UInt8} {s : Dk} (h : dkOK m s) (hm : m < 549755813888) (hb : b.length < 1099511627776) (h0 : b.length ≠ 0) :
  Con Try.prog 25 [dkD s, .int .i64 at_, .str b] True (.tup [dkD (wrF at_ b s).1, .int .i64 (wrF at_ b s).2]) :=
 con_eq (i_bursarref04_Write s.1 s.2.1 s.2.2.1 s.2.2.2 at_ b) ⟨h.sz (by omega), by have := h.2.1; omega, h.2.2, hb⟩ (by
  obtain ⟨e1, e2⟩ := wr_disk (S := s.1) (W := s.2.1) (L := s.2.2.1) (O := s.2.2.2) (i := at_) h0
  have e1' : dkD (wrF at_ b s).1 = writeD s.1 s.2.1 s.2.2.1 s.2.2.2 at_ b := e1
  have e2' : (wrF at_ b s).2 = writeE s.1 s.2.1 s.2.2.1 s.2.2.2 at_ b := e2
  rw [e1', e2'])
theorem con_flR {m : Nat} {s : Dk} (h : dkOK m s) (hm : m < 1099511627776) :
  Con Try.prog 26 [dkD s] True (.tup [dkD (flF s).1, .int .i64 (flF s).2]) :=
 con_eq (i_bursarref04_Flush s.1 s.2.1 s.2.2.1 s.2.2.2) ⟨h.sz hm, h.2.2⟩ rfl
theorem run_one {F : Nat → Dk → Dk × Int} {s : Dk} {k : Nat} {r q : Dk × Int} (h : runF F s k = r) (hr : r.2 = 0) (hq : F k r.1 = q) : runF F s (k + 1) = q := by
 rw [runF, h, if_neg (by rw [hr]; simp)]; exact hq
end Go.Val.Ytlfnmgmbmgacgaa
