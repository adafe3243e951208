/- Chapter 07, the laws, walked. -/
import Derived.Test.YtpeleigbmboceaaC07f
namespace Go.Val.Ytpeleigbmboceaa
open Go Go.Val Go.Proofs Go.Proofs.Ytpeleigbmboceaa
attribute [local irreducible] Ev EvD EvC thenQ blockQ RoundG RetQ
set_option maxRecDepth 100000
set_option maxHeartbeats 4000000
set_option linter.unusedSimpArgs false
set_option linter.unusedVariables false





theorem c_bursarlaw07_awake  (hC : True) : Pure Try.prog n_bursarlaw07_awake [] (.bool true) := by
  refine Pure.go tok (rs := [.tmp 0]) [.undef, .undef, .undef, .undef, .undef, .undef, .undef, .undef, .undef, .undef, .undef, .undef, .undef, .undef, .undef, .undef, .undef, .undef, .undef, .undef, .undef, .undef, .undef, .undef, .undef, .undef, .undef, .undef, .undef, .undef, .undef, .undef, .undef, .undef, .undef, .undef, .undef, .undef, .undef, .undef, .undef, .undef, .undef, .undef, .undef, .undef, .undef, .undef, .undef, .undef, .undef, .undef, .undef, .undef, .undef, .undef, .undef, .undef, .undef, .undef, .undef, .undef] Try.func5 (fun σ => ?_)
  have e0 : maySP 4 0 1 0 := by decide
  have e1 : fitsP 10 3 := by decide
  have l1 : logR 10 3 1 = (36, 0) := by decide
  have p1 : pageR 10 3 0 2 = (28, 0) := by decide
  have hz : superSec 4 0 1 0 = sealD (superRaw 4 0 1 0) := rfl
  have hl : (superSec 4 0 1 0).length = 64 := by rw [hz, sealD, List.length_append, superRaw_len]; rfl
  have ht : (superSec 4 0 1 0).take 10 = [98, 115, 117, 112, 0, 0, 0, 0, 0, 4] := by
    rw [hz, sealD, List.take_append_of_le_length (by rw [superRaw_len]; omega)]
    rfl
  repeat' (first | (show Ev _ _ _ _; first | refine Ev_seq ?_ | refine W_reg ?_ | refine Ev_skip ?_ | refine Ev_exit ?_ | refine Ev_ret ?_) | (show EvD _ _ [] _ _ _; refine W_nil ?_) | (show EvD _ _ (⟨_, _, _, _, _, some _⟩ :: _) _ _ _; first | refine W_grdY ?_ | refine W_grdN ?_ | refine W_grdP (fun h => ?_) (fun h => ?_) | refine W_grdB (fun h => ?_) (fun h => ?_)) | (show EvD _ _ (_ :: _) _ _ _; first | refine W_run tok ?_ ?_ (by simp (maxSteps := 1000000) (disch := omega) only [go_sem, wrap_i64_id, (if_pos e0), (if_pos e1), l1, p1, hl, ht]; with_reducible exact rfl) | refine W_callee ?_) | (show EvC _ _ _ _ _ _ _ _ _; first | refine W_con ?_ ?_ | refine W_weak ?_) | (show RetQ _ _ (RP _ _) _ _; refine R_ret ?_ ?_) | (show FrzTo _ _ _ _; first | refine F_row ?_ | refine F_weak ?_) | refine Q_thenN ?_ | refine Q_thenE ?_ | refine Q_thenR ?_)
  all_goals (try first | exact trivial | omega | (simp only [List.length_take, List.length_drop, List.length_append, List.length_replicate, List.length_cons, List.length_nil, bytes_len, beN_len, Int.reduceToNat, true_and, and_true]; omega))
  all_goals (try refine F_done ?_)
  all_goals rfl
instance i_bursarlaw07_awake  : Con Try.prog 5 [] (True) (.bool true) := ⟨c_bursarlaw07_awake ⟩
end Go.Val.Ytpeleigbmboceaa
