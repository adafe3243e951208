/- Chapter 09: two nodes compared, walked. -/
import Derived.Test.YtgjmpefhjdgkoaaN09o
namespace Go.Val.Ytgjmpefhjdgkoaa
open Go Go.Val Go.Proofs Go.Proofs.Ytgjmpefhjdgkoaa
attribute [local irreducible] Ev EvD EvC thenQ blockQ RoundG RetQ
set_option maxRecDepth 100000
set_option maxHeartbeats 4000000
set_option linter.unusedSimpArgs false
set_option linter.unusedVariables false
theorem c_tree_same (P : List PairB) (K : List (List UInt8)) (C : List Int) (P' : List PairB) (K' : List (List UInt8)) (C' : List Int) (hC : (P.length < 1099511627776 ∧ K.length < 1099511627776 ∧ C.length < 1099511627776) ∧ P'.length < 1099511627776 ∧ K'.length < 1099511627776 ∧ C'.length < 1099511627776) : Pure Try.prog n_tree_same [nodeD P K C, nodeD P' K' C'] (.bool (decide (P = P') && decide (K = K') && decide (C = C'))) := by
 refine Pure.go tok (rs := [.tmp 4]) [nodeD P K C, nodeD P' K' C', .undef, .undef, .undef, .undef, .undef, .undef, .undef, .undef, .undef, .undef, .undef, .undef, .undef, .undef, .undef, .undef, .undef, .undef, .undef, .undef, .undef, .undef] Try.func70 (fun σ => ?_)
 by_cases h1 : decide (P = P') = true
 ·by_cases h2 : decide (K = K') = true
  ·repeat' (first | (show Ev _ _ _ _; first | refine Ev_seq ?_ | refine W_reg ?_ | refine Ev_ret ?_) | (show EvD _ _ [] _ _ _; refine W_nil ?_) | (show EvD _ _ (_ :: _) _ _ _; first | refine W_run tok ?_ ?_ (by simp (maxSteps := 1000000) (disch := omega) only [go_sem, h1, h2]; with_reducible exact rfl) | refine W_callee ?_) | (show EvC _ _ _ _ _ _ _ _ _; refine W_con ?_ ?_) | (show RetQ _ _ (RP _ _) _ _; refine R_ret ?_ ?_) | refine Q_thenN ?_ | fail)
   all_goals (try exact sd)
   all_goals (try refine F_done ?_)
   all_goals first | rfl | (simp [h1, h2]; done) | trace_state
  ·rw [Bool.not_eq_true] at h2
   repeat' (first | (show Ev _ _ _ _; first | refine Ev_seq ?_ | refine W_reg ?_ | refine Ev_ret ?_) | (show EvD _ _ [] _ _ _; refine W_nil ?_) | (show EvD _ _ (_ :: _) _ _ _; first | refine W_run tok ?_ ?_ (by simp (maxSteps := 1000000) (disch := omega) only [go_sem, h1, h2]; with_reducible exact rfl) | refine W_callee ?_) | (show EvC _ _ _ _ _ _ _ _ _; refine W_con ?_ ?_) | (show RetQ _ _ (RP _ _) _ _; refine R_ret ?_ ?_) | refine Q_thenN ?_ | fail)
   all_goals (try exact sd)
   all_goals (try refine F_done ?_)
   all_goals first | rfl | (simp [h1, h2]; done) | trace_state
 ·rw [Bool.not_eq_true] at h1
  repeat' (first | (show Ev _ _ _ _; first | refine Ev_seq ?_ | refine W_reg ?_ | refine Ev_ret ?_) | (show EvD _ _ [] _ _ _; refine W_nil ?_) | (show EvD _ _ (_ :: _) _ _ _; first | refine W_run tok ?_ ?_ (by simp (maxSteps := 1000000) (disch := omega) only [go_sem, h1]; with_reducible exact rfl) | refine W_callee ?_) | (show EvC _ _ _ _ _ _ _ _ _; refine W_con ?_ ?_) | (show RetQ _ _ (RP _ _) _ _; refine R_ret ?_ ?_) | refine Q_thenN ?_ | fail)
  all_goals (try exact sd)
  all_goals (try refine F_done ?_)
  all_goals first | rfl | (simp [h1]; done) | trace_state
instance i_tree_same (P : List PairB) (K : List (List UInt8)) (C : List Int) (P' : List PairB) (K' : List (List UInt8)) (C' : List Int) : Con Try.prog 70 [nodeD P K C, nodeD P' K' C'] ((P.length < 1099511627776 ∧ K.length < 1099511627776 ∧ C.length < 1099511627776) ∧ P'.length < 1099511627776 ∧ K'.length < 1099511627776 ∧ C'.length < 1099511627776) (.bool (decide (P = P') && decide (K = K') && decide (C = C'))) := ⟨c_tree_same P  K  C  P'  K'  C' ⟩
end Go.Val.Ytgjmpefhjdgkoaa
