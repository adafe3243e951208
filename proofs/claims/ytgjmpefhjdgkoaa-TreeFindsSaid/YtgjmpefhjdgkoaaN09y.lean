/- Chapter 09: the statement of what is found in pages, walked. -/
import Derived.Test.YtgjmpefhjdgkoaaN09x
namespace Go.Val.Ytgjmpefhjdgkoaa
open Go Go.Val Go.Proofs Go.Proofs.Ytgjmpefhjdgkoaa
attribute [local irreducible] Ev EvD EvC thenQ blockQ RoundG RetQ
set_option maxRecDepth 100000
set_option maxHeartbeats 4000000
set_option linter.unusedSimpArgs false
set_option linter.unusedVariables false
theorem pairsOf_pgs (A : List NodeB) : (pairsOf (A.map pg1)).length ≤ 8 * A.length := by
 induction A with
 | nil => simp [pairsOf]
 | cons x A ih =>
  have h : pairsOf ((x :: A).map pg1) = x.1.take 8 ++ pairsOf (A.map pg1) := by simp [pairsOf, pg1]
  rw [h, List.length_append, List.length_take, List.length_cons]; omega
theorem sizeT_pgs (N : List NodeB) : sizeT (pgs N) := by
 have n9 : (N.take 40).length ≤ 40 := by simp; omega
 refine ⟨?_, fun x hx => ?_, ?_⟩
 ·unfold pgs; rw [List.length_map]; omega
 ·obtain ⟨y, _, rfl⟩ := List.mem_map.1 hx
  refine ⟨?_, ?_, ?_⟩ <;> simp only [pg1, List.length_take] <;> omega
 ·have := pairsOf_pgs (N.take 40)
  unfold pgs; omega
theorem c_bursarlaw09_TreeFinds (N0 : List NodeB) (k0 t0 : List UInt8) (hC : (N0.length ≤ 140737488355328 ∧ ∀ x ∈ N0, sizeM x) ∧ k0.length ≤ 9223372036854775807 ∧ t0.length ≤ 9223372036854775807) : Pure Try.prog n_bursarlaw09_TreeFinds [.sl (nodesD N0), .str k0, .str t0] (.bool true) := by
 refine Pure.go tok (rs := [.tmp 6]) [.sl (nodesD N0), .str k0, .str t0, .undef, .undef, .undef, .undef, .undef, .undef, .undef, .undef, .undef, .undef, .undef, .undef, .undef, .undef, .undef, .undef, .undef, .undef, .undef, .undef, .undef, .undef, .undef, .undef, .undef, .undef, .undef, .undef, .undef, .undef, .undef, .undef, .undef, .undef, .undef, .undef, .undef, .undef, .undef, .undef, .undef, .undef, .undef, .undef, .undef, .undef, .undef, .undef, .undef, .undef, .undef, .undef, .undef, .undef, .undef, .undef, .undef, .undef, .undef, .undef, .undef, .undef, .undef, .undef, .undef, .undef, .undef, .undef, .undef, .undef, .undef, .undef, .undef, .undef, .undef, .undef, .undef, .undef, .undef, .undef, .undef, .undef, .undef] Try.func10 (fun σ => ?_)
 obtain ⟨h0, hk0, ht0⟩ := hC
 have iP : Con Try.prog 38 [.sl (nodesD N0)] True (.sl (nodesD (pgs N0))) := ⟨fun _ => c_bursarlaw09_pages N0 h0⟩
 have hsz := sizeT_pgs N0
 generalize pgs N0 = N at iP hsz
 have iK : Con Try.prog 35 [.str k0] True (.str (t70 k0)) := ⟨fun _ => c_bursarlaw09_text k0 hk0⟩
 have iT : Con Try.prog 35 [.str t0] True (.str (t70 t0)) := ⟨fun _ => c_bursarlaw09_text t0 ht0⟩
 generalize t70 k0 = k at iK
 generalize t70 t0 = t at iT
 have i1 : Con Try.prog 39 [.sl (nodesD N)] True (.bool (rightT N)) := ⟨fun _ => c_tree_Right N hsz⟩
 have i2 : Con Try.prog 40 [.sl (nodesD N)] True (.bool (rightT N)) := ⟨fun _ => c_bursarref09_Right N hsz⟩
 have i3 : Con Try.prog 41 [.sl (nodesD N), .str k] True (.tup [.str (fndT N k).1, .int .i64 ((fndT N k).2.1 : Nat), .int .i64 ((fndT N k).2.2 : Nat)]) := ⟨fun _ => c_tree_Find N k hsz⟩
 have i4 : Con Try.prog 42 [.sl (nodesD N), .str k] True (.tup [.str (fndT N k).1, .int .i64 ((fndT N k).2.1 : Nat), .int .i64 ((fndT N k).2.2 : Nat)]) := ⟨fun _ => c_bursarref09_Find N k hsz⟩
 have i5 : Con Try.prog 36 [.sl (nodesD N), .str k, .str t] True (.tup [.sl (pairsD (rngT N k t).1), .int .i64 (rngT N k t).2]) := ⟨fun _ => c_tree_Range N k t hsz⟩
 have i6 : Con Try.prog 43 [.sl (nodesD N), .str k, .str t] True (.sl (pairsD (rngP (pairsOf N) k t))) := ⟨fun _ => c_bursarref09_Range N k t hsz⟩
 have hlr : (rngP (pairsOf N) k t).length ≤ 3000 := Nat.le_trans (List.length_filter_le _ _) hsz.2.2
 have i7 : Con Try.prog 37 [.sl (pairsD (rngP (pairsOf N) k t)), .sl (pairsD (rngP (pairsOf N) k t))] True (.bool true) := ⟨fun _ => by
  have := c_bursarref09_SamePairs (rngP (pairsOf N) k t) (rngP (pairsOf N) k t) (by omega)
  rwa [decide_eq_true rfl] at this⟩
 unfold rngT at i5
 generalize rngP (pairsOf N) k t = R at i5 i6 i7 hlr
 generalize (fndT N k).1 = v at i3 i4
 generalize (fndT N k).2.1 = n at i3 i4
 generalize (fndT N k).2.2 = e at i3 i4
 have rv : decide (v = v) = true := decide_eq_true rfl
 have rn : decide ((n : Int) = (n : Int)) = true := decide_eq_true rfl
 have re : decide ((e : Int) = (e : Int)) = true := decide_eq_true rfl
 by_cases hr : rightT N = false
 ·rw [hr] at i1 i2
  rw [if_pos hr] at i5
  simp only [pairsD, List.map_nil] at i5
  repeat' (first | (show Ev _ _ _ _; first | refine Ev_seq ?_ | refine W_reg ?_ | refine W_ifT ?_ | refine W_ifF ?_ | refine Ev_skip ?_ | refine Ev_ret ?_) | (show EvD _ _ [] _ _ _; refine W_nil ?_) | (show EvD _ _ (_ :: _) _ _ _; first | refine W_run tok ?_ ?_ (by simp (maxSteps := 1000000) (disch := omega) only [go_sem, wrap_i64_id, rv, rn, re]; with_reducible exact rfl) | refine W_callee ?_) | (show EvC _ _ _ _ _ _ _ _ _; refine W_con ?_ ?_) | (show RetQ _ _ (RP _ _) _ _; refine R_ret ?_ ?_) | refine Q_thenN ?_ | refine Q_thenR ?_ | fail)
  all_goals (try exact sd)
  all_goals (try refine F_done ?_)
  all_goals first | rfl | trace_state
 ·rw [if_neg hr] at i5
  rw [Bool.not_eq_false] at hr
  rw [hr] at i1 i2
  simp only at i5
  repeat' (first | (show Ev _ _ _ _; first | refine Ev_seq ?_ | refine W_reg ?_ | refine W_ifF ?_ | refine Ev_skip ?_ | refine Ev_ret ?_) | (show EvD _ _ [] _ _ _; refine W_nil ?_) | (show EvD _ _ (_ :: _) _ _ _; first | refine W_run tok ?_ ?_ (by simp (maxSteps := 1000000) (disch := omega) only [go_sem, wrap_i64_id, rv, rn, re]; with_reducible exact rfl) | refine W_callee ?_) | (show EvC _ _ _ _ _ _ _ _ _; refine W_con ?_ ?_) | (show RetQ _ _ (RP _ _) _ _; refine R_ret ?_ ?_) | refine Q_thenN ?_ | fail)
  all_goals (try exact sd)
  all_goals (try refine F_done ?_)
  all_goals first | rfl | trace_state
instance i_bursarlaw09_TreeFinds (N0 : List NodeB) (k0 t0 : List UInt8) : Con Try.prog 10 [.sl (nodesD N0), .str k0, .str t0] ((N0.length ≤ 140737488355328 ∧ ∀ x ∈ N0, sizeM x) ∧ k0.length ≤ 9223372036854775807 ∧ t0.length ≤ 9223372036854775807) (.bool true) := ⟨c_bursarlaw09_TreeFinds N0  k0 t0 ⟩
end Go.Val.Ytgjmpefhjdgkoaa
