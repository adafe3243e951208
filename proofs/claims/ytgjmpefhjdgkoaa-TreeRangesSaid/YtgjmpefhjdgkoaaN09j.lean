/- Chapter 09: the statement that a tree is built as the reference builds it: its examples, and its law, walked. -/
import Derived.Test.YtgjmpefhjdgkoaaN09i
namespace Go.Val.Ytgjmpefhjdgkoaa
open Go Go.Val Go.Proofs Go.Proofs.Ytgjmpefhjdgkoaa
attribute [local irreducible] Ev EvD EvC thenQ blockQ RoundG RetQ
set_option maxRecDepth 100000
set_option maxHeartbeats 4000000
set_option linter.unusedSimpArgs false
set_option linter.unusedVariables false
def P6 : List PairB := manyP 6
theorem P6_len : P6.length = 6 := by decide
theorem P6_bld : bldR P6 = ([(P6.take 5, [], []), (P6.drop 5, [], []), ([], [[97, 102]], [0, 1])], 0) := by kernel_rfl
theorem P0_bld : bldR [] = ([([], [], [])], 0) := by kernel_rfl
theorem dep41 : depthT 41 = 3 := by decide +kernel
theorem pag41 : pagesT 41 = 12 := by decide +kernel
attribute [local irreducible] P6
theorem c_bursarlaw09_awake  (hC : True) : Pure Try.prog n_bursarlaw09_awake [] (.bool true) := by
 refine Pure.go tok (rs := [.tmp 0]) [.undef, .undef, .undef, .undef, .undef, .undef, .undef, .undef, .undef, .undef, .undef, .undef, .undef, .undef, .undef, .undef, .undef, .undef, .undef, .undef, .undef, .undef, .undef, .undef, .undef, .undef, .undef, .undef, .undef, .undef, .undef, .undef, .undef, .undef, .undef, .undef, .undef, .undef, .undef, .undef, .undef, .undef, .undef, .undef, .undef, .undef, .undef, .undef, .undef, .undef, .undef, .undef, .undef, .undef] Try.func20 (fun σ => ?_)
 have i0 : Con Try.prog 13 [.sl []] True (.tup [.sl [.agg [.sl [], .sl [], .sl []]], .int .i64 0]) := ⟨fun _ => by
  have h := Pure_ans (c_tree_Build [] (by decide)) (bldX_le [])
  rw [P0_bld] at h
  exact h⟩
 have i6 : Con Try.prog 49 [.int .i64 6] True (.sl (pairsD P6)) := ⟨fun _ => by
  have h := c_bursarlaw09_many 6 (by decide)
  unfold P6
  exact h⟩
 have i7 : Con Try.prog 13 [.sl (pairsD P6)] True (.tup [.sl [.agg [.sl (pairsD (P6.take 5)), .sl [], .sl []], .agg [.sl (pairsD (P6.drop 5)), .sl [], .sl []], .agg [.sl [], .sl [.str [97, 102]], .sl [.int .i64 0, .int .i64 1]]], .int .i64 0]) := ⟨fun _ => by
  have h := Pure_ans (c_tree_Build P6 (by rw [P6_len]; decide)) (bldX_le P6)
  rw [P6_bld] at h
  exact h⟩
 have i8 : Con Try.prog 18 [.int .i64 41] True (.int .i64 3) := ⟨fun _ => by
  have h := c_tree_Depth 41 (by decide)
  rw [show (41 : Int).toNat = 41 from rfl, dep41] at h
  exact h⟩
 have i9 : Con Try.prog 16 [.int .i64 41] True (.int .i64 12) := ⟨fun _ => by
  have h := c_tree_Pages 41 (by decide)
  rw [show (41 : Int).toNat = 41 from rfl, pag41] at h
  exact h⟩
 repeat' (first | (show Ev _ _ _ _; first | refine Ev_seq ?_ | refine W_reg ?_ | refine Ev_ret ?_) | (show EvD _ _ [] _ _ _; refine W_nil ?_) | (show EvD _ _ (_ :: _) _ _ _; first | refine W_run tok ?_ ?_ (by simp (maxSteps := 1000000) (disch := omega) only [go_sem, wrap_i64_id]; with_reducible exact rfl) | refine W_callee ?_) | (show EvC _ _ _ _ _ _ _ _ _; first | refine W_con ?_ ?_ | refine W_weak ?_) | (show RetQ _ _ (RP _ _) _ _; refine R_ret ?_ ?_) | refine Q_thenN ?_ | fail)
 all_goals (try exact sd)
 all_goals (try refine F_done ?_)
 all_goals first | rfl | trace_state
instance i_bursarlaw09_awake  : Con Try.prog 20 [] (True) (.bool true) := ⟨c_bursarlaw09_awake ⟩
theorem depth_eq (k : Nat) : ((depthT k : Nat) : Int) = ((rdC (nL k) + 1 : Nat) : Int) := by unfold depthT; omega
theorem c_bursarlaw09_TreeBuilds (P0 : List PairB) (n : Int) (hC : (P0.length ≤ 140737488355328 ∧ lenP9 P0) ∧ -9223372036854775808 ≤ n ∧ n ≤ 9223372036854775807) : Pure Try.prog n_bursarlaw09_TreeBuilds [.sl (pairsD P0), .int .i64 n] (.bool true) := by
 refine Pure.go tok (rs := [.tmp 4]) [.sl (pairsD P0), .int .i64 n, .undef, .undef, .undef, .undef, .undef, .undef, .undef, .undef, .undef, .undef, .undef, .undef, .undef, .undef, .undef, .undef, .undef, .undef, .undef, .undef, .undef, .undef, .undef, .undef, .undef, .undef, .undef, .undef, .undef, .undef, .undef, .undef, .undef, .undef, .undef, .undef, .undef, .undef, .undef, .undef, .undef, .undef, .undef, .undef, .undef, .undef] Try.func3 (fun σ => ?_)
 obtain ⟨hC0, hn1, hn2⟩ := hC
 have iF : Con Try.prog 12 [.sl (pairsD P0)] True (.sl (pairsD ((P0.take 120).map tp9))) := ⟨fun _ => c_bursarlaw09_few P0 hC0⟩
 have hP : ((P0.take 120).map tp9).length ≤ 120 := by simp; omega
 generalize (P0.take 120).map tp9 = P at iF hP
 have hb := bld_len (P := P) (by omega)
 have hs := okS_bld P
 have iB : Con Try.prog 13 [.sl (pairsD P)] True (.tup [.sl (nodesD (bldR P).1), .int .i64 (bldR P).2]) := ⟨fun _ => Pure_ans (c_tree_Build P (by omega)) (bldX_le P)⟩
 have iR : Con Try.prog 14 [.sl (pairsD P)] True (.tup [.sl (nodesD (bldR P).1), .int .i64 (bldR P).2]) := ⟨fun _ => Pure_ans (c_bursarref09_Build P (by omega)) (bldY_le P)⟩
 have iS : Con Try.prog 15 [.sl (nodesD (bldR P).1), .sl (nodesD (bldR P).1)] True (.bool true) := ⟨fun _ => c_bursarref09_Same _ ⟨hb, hs⟩⟩
 generalize nodesD (bldR P).1 = N at iB iR iS
 generalize (bldR P).2 = e at iB iR
 have re : decide ((e : Int) = (e : Int)) = true := decide_eq_true rfl
 by_cases hn : n > 3000
 ·have iP := i_tree_Pages 3000
  have iQ := i_bursarref09_Pages 3000
  have iD := i_tree_Depth 3000
  have iL := i_bursarref09_Levels 3000
  have hl := (kidsD_len (lvsN (nL (3000 : Int).toNat) (rdC (nL (3000 : Int).toNat)))).trans (lvsN_len _ _)
  have hd := depth_eq (3000 : Int).toNat
  generalize (3000 : Int).toNat = k at iP iQ iD iL hl hd
  generalize kidsD (lvsN (nL k) (rdC (nL k))) = LL at iL hl
  generalize pagesT k = pk at iP iQ
  generalize depthT k = dk at iD hd
  generalize rdC (nL k) + 1 = rk at hl hd
  have rp : decide ((pk : Int) = (pk : Int)) = true := decide_eq_true rfl
  have rr : decide ((rk : Int) = (rk : Int)) = true := decide_eq_true rfl
  rw [hd] at iD
  repeat' (first | (show Ev _ _ _ _; first | refine Ev_seq ?_ | refine W_reg ?_ | refine W_ifF ?_ | refine W_ifY ?_ | refine Ev_skip ?_ | refine Ev_ret ?_) | (show EvD _ _ [] _ _ _; refine W_nil ?_) | (show EvD _ _ (_ :: _) _ _ _; first | refine W_run tok ?_ ?_ (by simp (maxSteps := 1000000) (disch := omega) only [go_sem, wrap_i64_id, re, rp, rr, hl]; with_reducible exact rfl) | refine W_callee ?_) | (show EvC _ _ _ _ _ _ _ _ _; refine W_con ?_ ?_) | (show RetQ _ _ (RP _ _) _ _; refine R_ret ?_ ?_) | refine Q_thenN ?_ | fail)
  all_goals (try exact sd)
  all_goals (try refine F_done ?_)
  all_goals first | rfl | trace_state
 ·have iP := i_tree_Pages n
  have iQ := i_bursarref09_Pages n
  have iD := i_tree_Depth n
  have iL := i_bursarref09_Levels n
  have hl := (kidsD_len (lvsN (nL n.toNat) (rdC (nL n.toNat)))).trans (lvsN_len _ _)
  have hd := depth_eq n.toNat
  generalize n.toNat = k at iP iQ iD iL hl hd
  generalize kidsD (lvsN (nL k) (rdC (nL k))) = LL at iL hl
  generalize pagesT k = pk at iP iQ
  generalize depthT k = dk at iD hd
  generalize rdC (nL k) + 1 = rk at hl hd
  have rp : decide ((pk : Int) = (pk : Int)) = true := decide_eq_true rfl
  have rr : decide ((rk : Int) = (rk : Int)) = true := decide_eq_true rfl
  rw [hd] at iD
  repeat' (first | (show Ev _ _ _ _; first | refine Ev_seq ?_ | refine W_reg ?_ | refine W_ifF ?_ | refine W_ifN ?_ | refine Ev_skip ?_ | refine Ev_ret ?_) | (show EvD _ _ [] _ _ _; refine W_nil ?_) | (show EvD _ _ (_ :: _) _ _ _; first | refine W_run tok ?_ ?_ (by simp (maxSteps := 1000000) (disch := omega) only [go_sem, wrap_i64_id, re, rp, rr, hl]; with_reducible exact rfl) | refine W_callee ?_) | (show EvC _ _ _ _ _ _ _ _ _; refine W_con ?_ ?_) | (show RetQ _ _ (RP _ _) _ _; refine R_ret ?_ ?_) | refine Q_thenN ?_ | fail)
  all_goals (try exact sd)
  all_goals (try refine F_done ?_)
  all_goals first | rfl | trace_state
instance i_bursarlaw09_TreeBuilds (P0 : List PairB) (n : Int) : Con Try.prog 3 [.sl (pairsD P0), .int .i64 n] ((P0.length ≤ 140737488355328 ∧ lenP9 P0) ∧ -9223372036854775808 ≤ n ∧ n ≤ 9223372036854775807) (.bool true) := ⟨c_bursarlaw09_TreeBuilds P0  n ⟩
end Go.Val.Ytgjmpefhjdgkoaa
