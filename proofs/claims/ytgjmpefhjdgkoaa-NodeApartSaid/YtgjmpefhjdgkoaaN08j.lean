/- Chapter 08: what the document reads of a page, walked. -/
import Derived.Test.YtgjmpefhjdgkoaaN08h
namespace Go.Val.Ytgjmpefhjdgkoaa
open Go Go.Val Go.Proofs Go.Proofs.Ytgjmpefhjdgkoaa
attribute [local irreducible] Ev EvD EvC thenQ blockQ RoundG RetQ
set_option maxRecDepth 100000
set_option maxHeartbeats 4000000
set_option linter.unusedSimpArgs false
set_option linter.unusedVariables false
def octN (s : List UInt8) (a : Nat) : Nat := (s.getD a 0).toNat
theorem octN_lt (s : List UInt8) (a : Nat) : octN s a < 256 := (s.getD a 0).toNat_lt
theorem octN_end {s : List UInt8} {a : Nat} (h : s.length ≤ a) : octN s a = 0 := by
 unfold octN; rw [List.getD_eq_getElem?_getD, List.getElem?_eq_none h]; rfl
theorem c_bursarref08_octet (s : List UInt8) (a : Nat) (hC : s.length ≤ 1000) : Pure Try.prog n_bursarref08_octet [.str s, .int .i64 a] (.int .i64 (octN s a)) := by
 refine Pure.go tok (rs := [.tmp 4]) [.str s, .int .i64 a, .undef, .undef, .undef, .undef, .undef, .undef, .undef, .undef, .undef, .undef, .undef] Try.func67 (fun σ => ?_)
 by_cases h : s.length ≤ a
 ·rw [octN_end h]
  repeat' (first | (show Ev _ _ _ _; first | refine Ev_seq ?_ | refine W_reg ?_ | refine W_ifT ?_ | refine W_ifF ?_ | refine W_ifY ?_ | refine W_ifN ?_ | refine W_ifP (fun h => ?_) (fun h => ?_) | refine W_ifB (fun h => ?_) (fun h => ?_) | refine Ev_skip ?_ | refine Ev_exit ?_ | refine Ev_ret ?_) | (show EvD _ _ [] _ _ _; refine W_nil ?_) | (show EvD _ _ (_ :: _) _ _ _; first | refine W_run tok ?_ ?_ | refine W_callee ?_) | (show EvC _ _ _ _ _ _ _ _ _; first | refine W_con ?_ ?_ | refine W_weak ?_) | (show RetQ _ _ (RP _ _) _ _; refine R_ret ?_ ?_) | (show FrzTo _ _ _ _; first | refine F_row ?_ | refine F_weak ?_) | refine Q_thenN ?_ | refine Q_thenE ?_ | refine Q_thenR ?_)
  all_goals (try exact sd)
  all_goals (try refine F_done ?_)
  all_goals rfl
 ·have hb := octN_lt s a
  unfold octN at hb ⊢
  repeat' (first | (show Ev _ _ _ _; first | refine Ev_seq ?_ | refine W_reg ?_ | refine W_ifT ?_ | refine W_ifF ?_ | refine W_ifY ?_ | refine W_ifN ?_ | refine W_ifP (fun h => ?_) (fun h => ?_) | refine W_ifB (fun h => ?_) (fun h => ?_) | refine Ev_skip ?_ | refine Ev_exit ?_ | refine Ev_ret ?_) | (show EvD _ _ [] _ _ _; refine W_nil ?_) | (show EvD _ _ (_ :: _) _ _ _; first | refine W_run tok ?_ ?_ (by simp (maxSteps := 1000000) (disch := omega) only [go_sem, wrap_i64_id]; with_reducible exact rfl) | refine W_callee ?_) | (show EvC _ _ _ _ _ _ _ _ _; first | refine W_con ?_ ?_ | refine W_weak ?_) | (show RetQ _ _ (RP _ _) _ _; refine R_ret ?_ ?_) | (show FrzTo _ _ _ _; first | refine F_row ?_ | refine F_weak ?_) | refine Q_thenN ?_ | refine Q_thenE ?_ | refine Q_thenR ?_)
  all_goals (try exact sd)
  all_goals (try refine F_done ?_)
  all_goals first | rfl | trace_state
instance i_bursarref08_octet (s : List UInt8) (a : Nat) : Con Try.prog 67 [.str s, .int .i64 a] (s.length ≤ 1000) (.int .i64 (octN s a)) := ⟨c_bursarref08_octet s  a ⟩
def getN (s : List UInt8) (a : Nat) : List UInt8 × Nat := if s.length < a + 1 + octN s a then ([], s.length + 1) else ((s.drop (a + 1)).take (octN s a), a + 1 + octN s a)
theorem c_bursarref08_get (s : List UInt8) (a : Nat) (hC : s.length ≤ 1000 ∧ a ≤ 2000) : Pure Try.prog n_bursarref08_get [.str s, .int .i64 a] (.tup [.str (getN s a).1, .int .i64 ((getN s a).2 : Nat)]) := by
 refine Pure.go tok (rs := [.tmp 4, .tmp 5]) [.str s, .int .i64 a, .undef, .undef, .undef, .undef, .undef, .undef, .undef, .undef, .undef, .undef, .undef, .undef, .undef, .undef, .undef, .undef, .undef, .undef, .undef, .undef, .undef, .undef, .undef, .undef, .undef, .undef, .undef, .undef, .undef, .undef] Try.func68 (fun σ => ?_)
 have hb := octN_lt s a
 by_cases h : s.length < a + 1 + octN s a
 ·have e : getN s a = ([], s.length + 1) := by unfold getN; rw [if_pos h]
  rw [e]
  repeat' (first | (show Ev _ _ _ _; first | refine Ev_seq ?_ | refine W_reg ?_ | refine W_ifT ?_ | refine W_ifF ?_ | refine W_ifY ?_ | refine W_ifN ?_ | refine W_ifP (fun h => ?_) (fun h => ?_) | refine W_ifB (fun h => ?_) (fun h => ?_) | refine Ev_skip ?_ | refine Ev_exit ?_ | refine Ev_ret ?_) | (show EvD _ _ [] _ _ _; refine W_nil ?_) | (show EvD _ _ (_ :: _) _ _ _; first | refine W_run tok ?_ ?_ (by simp (maxSteps := 1000000) (disch := omega) only [go_sem, wrap_i64_id]; with_reducible exact rfl) | refine W_callee ?_) | (show EvC _ _ _ _ _ _ _ _ _; first | refine W_con ?_ ?_ | refine W_weak ?_) | (show RetQ _ _ (RP _ _) _ _; refine R_ret ?_ ?_) | (show FrzTo _ _ _ _; first | refine F_row ?_ | refine F_weak ?_) | refine Q_thenN ?_ | refine Q_thenE ?_ | refine Q_thenR ?_)
  all_goals (try exact sd)
  all_goals (try refine F_done ?_)
  all_goals first | rfl | trace_state
 ·have e : getN s a = ((s.drop (a + 1)).take (octN s a), a + 1 + octN s a) := by unfold getN; rw [if_neg h]
  rw [e]
  have e1 : ((a : Int) + 1).toNat = a + 1 := by omega
  have e2 : ((a : Int) + 1 + (octN s a : Int)).toNat = a + 1 + octN s a := by omega
  repeat' (first | (show Ev _ _ _ _; first | refine Ev_seq ?_ | refine W_reg ?_ | refine W_ifT ?_ | refine W_ifF ?_ | refine W_ifY ?_ | refine W_ifN ?_ | refine W_ifP (fun h => ?_) (fun h => ?_) | refine W_ifB (fun h => ?_) (fun h => ?_) | refine Ev_skip ?_ | refine Ev_exit ?_ | refine Ev_ret ?_) | (show EvD _ _ [] _ _ _; refine W_nil ?_) | (show EvD _ _ (_ :: _) _ _ _; first | refine W_run tok ?_ ?_ (by simp (maxSteps := 1000000) (disch := omega) only [go_sem, wrap_i64_id, e1, e2]; with_reducible exact rfl) | refine W_callee ?_) | (show EvC _ _ _ _ _ _ _ _ _; first | refine W_con ?_ ?_ | refine W_weak ?_) | (show RetQ _ _ (RP _ _) _ _; refine R_ret ?_ ?_) | (show FrzTo _ _ _ _; first | refine F_row ?_ | refine F_weak ?_) | refine Q_thenN ?_ | refine Q_thenE ?_ | refine Q_thenR ?_)
  all_goals (try exact sd)
  all_goals (try refine F_done ?_)
  ·rw [List.drop_take, show a + 1 + octN s a - (a + 1) = octN s a by omega, show (a : Int) + 1 + (octN s a : Int) = ((a + 1 + octN s a : Nat) : Int) by omega]
  all_goals omega
instance i_bursarref08_get (s : List UInt8) (a : Nat) : Con Try.prog 68 [.str s, .int .i64 a] (s.length ≤ 1000 ∧ a ≤ 2000) (.tup [.str (getN s a).1, .int .i64 ((getN s a).2 : Nat)]) := ⟨c_bursarref08_get s  a ⟩
end Go.Val.Ytgjmpefhjdgkoaa
