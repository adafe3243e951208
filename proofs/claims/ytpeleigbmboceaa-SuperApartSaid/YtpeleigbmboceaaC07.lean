/- Chapter 07, the program's side: supers and plans, walked. -/
import Derived.Test.YtpeleigbmboceaaK03
namespace Go.Val.Ytpeleigbmboceaa
open Go Go.Val Go.Proofs Go.Proofs.Ytpeleigbmboceaa
attribute [local irreducible] Ev EvD EvC thenQ blockQ RoundG RetQ
set_option maxRecDepth 100000
set_option maxHeartbeats 4000000
set_option linter.unusedSimpArgs false
set_option linter.unusedVariables false

theorem c_super_in (n low high : Int) (hC : True) : Pure Try.prog n_super_in [.int .i64 n, .int .i64 low, .int .i64 high] (.bool (decide (low ≤ n ∧ n ≤ high))) := by
  refine Pure.go tok (rs := [.tmp 6]) [.int .i64 n, .int .i64 low, .int .i64 high, .undef, .undef, .undef, .undef, .undef, .undef, .undef, .undef, .undef, .undef, .undef, .undef] Try.func9 (fun σ => ?_)
  repeat' (first | (show Ev _ _ _ _; first | refine Ev_seq ?_ | refine W_reg ?_ | refine Ev_skip ?_ | refine Ev_exit ?_ | refine Ev_ret ?_) | (show EvD _ _ [] _ _ _; refine W_nil ?_) | (show EvD _ _ (⟨_, _, _, _, _, some _⟩ :: _) _ _ _; first | refine W_grdY ?_ | refine W_grdN ?_ | refine W_grdP (fun h => ?_) (fun h => ?_) | refine W_grdB (fun h => ?_) (fun h => ?_)) | (show EvD _ _ (_ :: _) _ _ _; first | refine W_run tok ?_ ?_ | refine W_callee ?_) | (show RetQ _ _ (RP _ _) _ _; refine R_ret ?_ ?_) | (show FrzTo _ _ _ _; first | refine F_row ?_ | refine F_weak ?_) | refine Q_thenN ?_ | refine Q_thenE ?_ | refine Q_thenR ?_)
  all_goals (try first | exact trivial | omega | (simp only [List.length_take, List.length_drop, List.length_append, List.length_replicate, List.length_cons, List.length_nil, bytes_len, beN_len, Int.reduceToNat, true_and, and_true]; omega))
  all_goals (try refine F_done ?_)
  all_goals (try first | rfl | (exfalso; omega) | (simp only [DV.bool.injEq, DV.int.injEq, DV.str.injEq, DV.sl.injEq, DV.agg.injEq, DV.tup.injEq, List.cons.injEq, decide_eq_decide, decide_eq_true_eq, decide_eq_false_iff_not, true_and, and_true]; first | done | omega) | (simp; first | done | omega))
instance i_super_in (n low high : Int) : Con Try.prog 9 [.int .i64 n, .int .i64 low, .int .i64 high] (True) (.bool (decide (low ≤ n ∧ n ≤ high))) := ⟨c_super_in n low high ⟩

abbrev maySP (g h n p : Int) : Prop := (1 ≤ g ∧ g ≤ 281474976710655) ∧ (0 ≤ h ∧ h ≤ 1) ∧ (1 ≤ n ∧ n ≤ 281474976710655) ∧ 0 ≤ p ∧ p ≤ 200
abbrev superD (g h n p : Int) : DV := .agg [.int .i64 g, .int .i64 h, .int .i64 n, .int .i64 p]
theorem c_super_May (g h n p : Int) (hC : True) : Pure Try.prog n_super_May [superD g h n p] (.bool (decide (maySP g h n p))) := by
  refine Pure.go tok (rs := [.tmp 2]) [superD g h n p, .undef, .undef, .undef, .undef, .undef, .undef, .undef, .undef, .undef, .undef, .undef, .undef, .undef, .undef, .undef, .undef, .undef, .undef, .undef, .undef] Try.func12 (fun σ => ?_)
  repeat' (first | (show Ev _ _ _ _; first | refine Ev_seq ?_ | refine W_reg ?_ | refine Ev_skip ?_ | refine Ev_exit ?_ | refine Ev_ret ?_) | (show EvD _ _ [] _ _ _; refine W_nil ?_) | (show EvD _ _ (⟨_, _, _, _, _, some _⟩ :: _) _ _ _; first | refine W_grdY ?_ | refine W_grdN ?_ | refine W_grdP (fun h => ?_) (fun h => ?_) | refine W_grdB (fun h => ?_) (fun h => ?_)) | (show EvD _ _ (_ :: _) _ _ _; first | refine W_run tok ?_ ?_ | refine W_callee ?_) | (show EvC _ _ _ _ _ _ _ _ _; first | refine W_con ?_ ?_ | refine W_weak ?_) | (show RetQ _ _ (RP _ _) _ _; refine R_ret ?_ ?_) | (show FrzTo _ _ _ _; first | refine F_row ?_ | refine F_weak ?_) | refine Q_thenN ?_ | refine Q_thenE ?_ | refine Q_thenR ?_)
  all_goals (try first | exact trivial | omega | (simp only [List.length_take, List.length_drop, List.length_append, List.length_replicate, List.length_cons, List.length_nil, bytes_len, beN_len, Int.reduceToNat, true_and, and_true]; omega))
  all_goals (try refine F_done ?_)
  all_goals (try first | rfl | (exfalso; omega) | (simp only [DV.bool.injEq, DV.int.injEq, DV.str.injEq, DV.sl.injEq, DV.agg.injEq, DV.tup.injEq, List.cons.injEq, decide_eq_decide, decide_eq_true_eq, decide_eq_false_iff_not, true_and, and_true]; first | done | omega) | (simp; first | done | omega))
instance i_super_May (g h n p : Int) : Con Try.prog 12 [superD g h n p] (True) (.bool (decide (maySP g h n p))) := ⟨c_super_May g h n p ⟩

end Go.Val.Ytpeleigbmboceaa
