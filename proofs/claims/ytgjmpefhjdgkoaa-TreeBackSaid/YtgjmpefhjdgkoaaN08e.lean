/- Chapter 08: node.May, walked. -/
import Derived.Test.YtgjmpefhjdgkoaaN08d
namespace Go.Val.Ytgjmpefhjdgkoaa
open Go Go.Val Go.Proofs Go.Proofs.Ytgjmpefhjdgkoaa
attribute [local irreducible] Ev EvD EvC thenQ blockQ RoundG RetQ
set_option maxRecDepth 100000
set_option maxHeartbeats 4000000
set_option linter.unusedSimpArgs false
set_option linter.unusedVariables false
theorem pairs_ok {P : List PairB} (h : P.length < 1099511627776) : ((pairsD P).length < 1099511627776 ∧ ∀ x ∈ pairsD P, ∃ a b, x = .agg [a, b]) ∧ ∀ x ∈ pairsD P, ∃ k v, x = .agg [.str k, .str v] := by
 refine ⟨⟨by rw [pairsD_len]; exact h, fun x hx => ?_⟩, fun x hx => ?_⟩
 ·obtain ⟨b, _, rfl⟩ := List.mem_map.1 hx; exact ⟨_, _, rfl⟩
 ·obtain ⟨b, _, rfl⟩ := List.mem_map.1 hx; exact ⟨_, _, rfl⟩
theorem strs_ok {K : List (List UInt8)} (h : K.length < 1099511627776) : ((strsD K).length < 1099511627776 ∧ ∀ x ∈ strsD K, x.cells = [x]) ∧ ∀ x ∈ strsD K, ∃ k, x = .str k := by
 refine ⟨⟨by rw [strsD_len]; exact h, fun x hx => ?_⟩, fun x hx => ?_⟩
 ·obtain ⟨b, _, rfl⟩ := List.mem_map.1 hx; rfl
 ·obtain ⟨b, _, rfl⟩ := List.mem_map.1 hx; exact ⟨_, rfl⟩
theorem allN_zero (p : Nat → Bool) : allN 0 p = true := rfl
theorem c_node_May (P : List PairB) (K : List (List UInt8)) (C : List Int) (hC : P.length < 1099511627776 ∧ K.length < 1099511627776 ∧ C.length < 1099511627776) : Pure Try.prog n_node_May [nodeD P K C] (.bool (mayN P K C)) := by
 refine Pure.go tok (rs := [.tmp 2]) [nodeD P K C, .undef, .undef, .undef, .undef, .undef, .undef, .undef, .undef, .undef, .undef, .undef, .undef, .undef, .undef, .undef, .undef, .undef, .undef, .undef, .undef, .undef, .undef, .undef, .undef, .undef, .undef, .undef, .undef, .undef, .undef, .undef, .undef, .undef, .undef, .undef, .undef, .undef, .undef, .undef, .undef, .undef, .undef, .undef, .undef, .undef, .undef, .undef, .undef, .undef, .undef, .undef, .undef, .undef, .undef, .undef, .undef, .undef, .undef, .undef, .undef, .undef, .undef, .undef, .undef, .undef, .undef, .undef, .undef, .undef, .undef, .undef, .undef, .undef, .undef, .undef] Try.func24 (fun σ => ?_)
 have hsP := pairsD_len P
 have hsK := strsD_len K
 have hsC := kidsD_len C
 have hkl := keysOf_len P
 by_cases z0 : C.length = 0
 ·have f0 : decide ((C.length : Int) = 0) = true := by rw [z0]; rfl
  have hS : mayN P K C = (!(pairsD P).any badP && risB (keysOf P) && allN K.length (okK K) && (decide (K.length = 0) && decide (P.length ≤ 5))) := by
   unfold mayN shapeN
   rw [allP_eq, z0, allN_zero, if_pos rfl, Bool.and_true]
  rw [hS]
  by_cases z1 : K.length = 0
  ·have f1 : decide ((K.length : Int) = 0) = true := by rw [z1]; rfl
   rw [z1, allN_zero, Bool.and_true, decide_eq_true (rfl : 0 = 0), Bool.true_and]
   by_cases z2 : P.length ≤ 5
   ·have f2 : decide ((P.length : Int) ≤ 5) = true := decide_eq_true (by omega)
    rw [decide_eq_true z2, Bool.and_true]
    cases hb : (pairsD P).any badP
    ·repeat' (first | (show Ev _ _ _ _; first | refine Ev_seq ?_ | refine W_reg ?_ | refine W_ifT ?_ | refine Ev_ret ?_) | (show EvD _ _ [] _ _ _; refine W_nil ?_) | (show EvD _ _ (_ :: _) _ _ _; first | refine W_run tok ?_ ?_ (by simp (maxSteps := 1000000) (disch := omega) only [go_sem, f0, f1, f2, hb]; with_reducible exact rfl) | refine W_callee ?_) | (show EvC _ _ _ _ _ _ _ _ _; refine W_con ?_ ?_) | (show RetQ _ _ (RP _ _) _ _; refine R_ret ?_ ?_) | refine Q_thenN ?_ | refine Q_thenR ?_ | fail)
     all_goals (try exact sd)
     all_goals (try refine F_done ?_)
     all_goals first | exact pairs_ok hC.1 | rfl | omega
    ·repeat' (first | (show Ev _ _ _ _; first | refine Ev_seq ?_ | refine W_reg ?_ | refine W_ifT ?_ | refine Ev_ret ?_) | (show EvD _ _ [] _ _ _; refine W_nil ?_) | (show EvD _ _ (_ :: _) _ _ _; first | refine W_run tok ?_ ?_ (by simp (maxSteps := 1000000) (disch := omega) only [go_sem, f0, f1, f2, hb]; with_reducible exact rfl) | refine W_callee ?_) | (show EvC _ _ _ _ _ _ _ _ _; refine W_con ?_ ?_) | (show RetQ _ _ (RP _ _) _ _; refine R_ret ?_ ?_) | refine Q_thenN ?_ | refine Q_thenR ?_ | fail)
     all_goals (try exact sd)
     all_goals (try refine F_done ?_)
     all_goals first | exact pairs_ok hC.1 | rfl | omega
   ·have f2 : decide ((P.length : Int) ≤ 5) = false := decide_eq_false (by omega)
    rw [decide_eq_false z2, Bool.and_false]
    repeat' (first | (show Ev _ _ _ _; first | refine Ev_seq ?_ | refine W_reg ?_ | refine W_ifT ?_ | refine Ev_ret ?_) | (show EvD _ _ [] _ _ _; refine W_nil ?_) | (show EvD _ _ (_ :: _) _ _ _; first | refine W_run tok ?_ ?_ (by simp (maxSteps := 1000000) (disch := omega) only [go_sem, f0, f1, f2]; with_reducible exact rfl)) | (show RetQ _ _ (RP _ _) _ _; refine R_ret ?_ ?_) | refine Q_thenN ?_ | refine Q_thenR ?_ | fail)
    all_goals (try exact sd)
    all_goals (try refine F_done ?_)
    all_goals rfl
  ·have f1 : decide ((K.length : Int) = 0) = false := decide_eq_false (by omega)
   rw [decide_eq_false z1, Bool.false_and, Bool.and_false]
   repeat' (first | (show Ev _ _ _ _; first | refine Ev_seq ?_ | refine W_reg ?_ | refine W_ifT ?_ | refine Ev_ret ?_) | (show EvD _ _ [] _ _ _; refine W_nil ?_) | (show EvD _ _ (_ :: _) _ _ _; first | refine W_run tok ?_ ?_ (by simp (maxSteps := 1000000) (disch := omega) only [go_sem, f0, f1]; with_reducible exact rfl)) | (show RetQ _ _ (RP _ _) _ _; refine R_ret ?_ ?_) | refine Q_thenN ?_ | refine Q_thenR ?_ | fail)
   all_goals (try exact sd)
   all_goals (try refine F_done ?_)
   all_goals rfl
 ·have f0 : decide ((C.length : Int) = 0) = false := decide_eq_false (by omega)
  have hS : mayN P K C = (allN P.length (okP P) && (!(strsD K).any badK && risB K) && allN C.length (fun i => !badAtC C i) && (decide (P.length = 0) && decide (2 ≤ C.length) && decide (C.length ≤ 8) && decide (K.length = C.length - 1))) := by
   unfold mayN shapeN
   rw [allK_eq, allC_eq, if_neg z0]
  rw [hS]
  obtain ⟨M', hD⟩ := c_HasI σ.rows (σ.boxes ++ [some ⟨42, [.sl (pairsD P), .sl (strsD K), .sl (kidsD C)]⟩]) σ.maps C hC.2.2
  simp only [List.append_assoc, List.cons_append, List.nil_append, List.length_append, List.length_cons, List.length_nil, Nat.zero_add] at hD
  by_cases z2 : 2 ≤ C.length
  ·have f2 : decide ((C.length : Int) < 2) = false := decide_eq_false (by omega)
   by_cases z3 : C.length ≤ 8
   ·have f3 : decide ((C.length : Int) > 8) = false := decide_eq_false (by omega)
    rw [decide_eq_true z2, decide_eq_true z3, Bool.and_true, Bool.and_true]
    cases hb : allN C.length (fun i => !badAtC C i)
    ·rw [hb] at hD
     simp only [Bool.not_true, Bool.not_false] at hD
     repeat' (first | (show Ev _ _ _ _; first | refine Ev_seq ?_ | refine W_reg ?_ | refine W_ifF ?_ | refine Ev_skip ?_) | (show EvD _ _ [] _ _ _; refine W_nil ?_) | (show EvD _ _ (⟨some _, .makeMap _ none, _, _, _, _⟩ :: _) _ _ _; refine W_mkmap ?_) | (show EvD _ _ (_ :: _) _ _ _; first | refine W_run tok ?_ ?_ (by simp (maxSteps := 1000000) (disch := omega) only [go_sem, f0, f2, f3]; with_reducible exact rfl) | refine W_callee ?_) | refine Q_thenN ?_ | fail)
     all_goals (try exact sd)
     all_goals (try refine F_done ?_)
     rotate_left
     ·exact Nat.le_refl 1
     refine W_does hD ?_
     repeat' (first | (show Ev _ _ _ _; first | refine Ev_seq ?_ | refine W_reg ?_ | refine W_ifT ?_ | refine Ev_ret ?_) | (show EvD _ _ [] _ _ _; refine W_nil ?_) | (show EvD _ _ (_ :: _) _ _ _; refine W_run tok ?_ ?_) | (show RetQ _ _ (RP _ _) _ _; refine R_ret ?_ ?_) | refine Q_thenN ?_ | refine Q_thenR ?_ | fail)
     all_goals (try exact sd)
     all_goals (try refine F_done ?_)
     all_goals first | rfl | exact Nat.le_refl 1 | (simp; done) | skip
    ·rw [hb] at hD
     simp only [Bool.not_true, Bool.not_false] at hD
     repeat' (first | (show Ev _ _ _ _; first | refine Ev_seq ?_ | refine W_reg ?_ | refine W_ifF ?_ | refine Ev_skip ?_) | (show EvD _ _ [] _ _ _; refine W_nil ?_) | (show EvD _ _ (⟨some _, .makeMap _ none, _, _, _, _⟩ :: _) _ _ _; refine W_mkmap ?_) | (show EvD _ _ (_ :: _) _ _ _; first | refine W_run tok ?_ ?_ (by simp (maxSteps := 1000000) (disch := omega) only [go_sem, f0, f2, f3]; with_reducible exact rfl) | refine W_callee ?_) | refine Q_thenN ?_ | fail)
     all_goals (try exact sd)
     all_goals (try refine F_done ?_)
     rotate_left
     ·exact Nat.le_refl 1
     refine W_does hD ?_
     by_cases z4 : P.length = 0
     ·have f4 : decide ((P.length : Int) = 0) = true := by rw [z4]; rfl
      by_cases z5 : K.length = C.length - 1
      ·have f5 : decide ((K.length : Int) = (C.length : Int) - 1) = true := decide_eq_true (by omega)
       rw [z4, allN_zero, decide_eq_true z5]
       cases hk : (strsD K).any badK
       ·repeat' (first | (show Ev _ _ _ _; first | refine Ev_seq ?_ | refine W_reg ?_ | refine W_ifF ?_ | refine Ev_skip ?_ | refine Ev_ret ?_) | (show EvD _ _ [] _ _ _; refine W_nil ?_) | (show EvD _ _ (_ :: _) _ _ _; first | refine W_run tok ?_ ?_ (by simp (maxSteps := 1000000) (disch := omega) only [go_sem, wrap_i64_id, f4, f5, hk]; with_reducible exact rfl) | refine W_callee ?_) | (show EvC _ _ _ _ _ _ _ _ _; refine W_con ?_ ?_) | (show RetQ _ _ (RP _ _) _ _; refine R_ret ?_ ?_) | refine Q_thenN ?_ | fail)
        all_goals (try exact sd)
        all_goals (try refine F_done ?_)
        all_goals first | exact strs_ok hC.2.1 | (simp; done) | omega
       ·repeat' (first | (show Ev _ _ _ _; first | refine Ev_seq ?_ | refine W_reg ?_ | refine W_ifF ?_ | refine Ev_skip ?_ | refine Ev_ret ?_) | (show EvD _ _ [] _ _ _; refine W_nil ?_) | (show EvD _ _ (_ :: _) _ _ _; first | refine W_run tok ?_ ?_ (by simp (maxSteps := 1000000) (disch := omega) only [go_sem, wrap_i64_id, f4, f5, hk]; with_reducible exact rfl) | refine W_callee ?_) | (show EvC _ _ _ _ _ _ _ _ _; refine W_con ?_ ?_) | (show RetQ _ _ (RP _ _) _ _; refine R_ret ?_ ?_) | refine Q_thenN ?_ | fail)
        all_goals (try exact sd)
        all_goals (try refine F_done ?_)
        all_goals first | exact strs_ok hC.2.1 | (simp; done) | omega
      ·have f5 : decide ((K.length : Int) = (C.length : Int) - 1) = false := decide_eq_false (by omega)
       rw [decide_eq_false z5]
       repeat' (first | (show Ev _ _ _ _; first | refine Ev_seq ?_ | refine W_reg ?_ | refine W_ifF ?_ | refine Ev_skip ?_ | refine Ev_ret ?_) | (show EvD _ _ [] _ _ _; refine W_nil ?_) | (show EvD _ _ (_ :: _) _ _ _; first | refine W_run tok ?_ ?_ (by simp (maxSteps := 1000000) (disch := omega) only [go_sem, wrap_i64_id, f4, f5]; with_reducible exact rfl)) | (show RetQ _ _ (RP _ _) _ _; refine R_ret ?_ ?_) | refine Q_thenN ?_ | fail)
       all_goals (try exact sd)
       all_goals (try refine F_done ?_)
       all_goals first | rfl | exact Nat.le_refl 1 | (simp; done) | skip
     ·have f4 : decide ((P.length : Int) = 0) = false := decide_eq_false (by omega)
      rw [decide_eq_false z4]
      repeat' (first | (show Ev _ _ _ _; first | refine Ev_seq ?_ | refine W_reg ?_ | refine W_ifF ?_ | refine Ev_skip ?_ | refine Ev_ret ?_) | (show EvD _ _ [] _ _ _; refine W_nil ?_) | (show EvD _ _ (_ :: _) _ _ _; first | refine W_run tok ?_ ?_ (by simp (maxSteps := 1000000) (disch := omega) only [go_sem, f4]; with_reducible exact rfl)) | (show RetQ _ _ (RP _ _) _ _; refine R_ret ?_ ?_) | refine Q_thenN ?_ | fail)
      all_goals (try exact sd)
      all_goals (try refine F_done ?_)
      all_goals first | rfl | exact Nat.le_refl 1 | (simp; done) | skip
   ·have f3 : decide ((C.length : Int) > 8) = true := decide_eq_true (by omega)
    rw [decide_eq_false z3]
    repeat' (first | (show Ev _ _ _ _; first | refine Ev_seq ?_ | refine W_reg ?_ | refine W_ifT ?_ | refine W_ifF ?_ | refine Ev_skip ?_ | refine Ev_ret ?_) | (show EvD _ _ [] _ _ _; refine W_nil ?_) | (show EvD _ _ (⟨some _, .makeMap _ none, _, _, _, _⟩ :: _) _ _ _; refine W_mkmap ?_) | (show EvD _ _ (_ :: _) _ _ _; first | refine W_run tok ?_ ?_ (by simp (maxSteps := 1000000) (disch := omega) only [go_sem, f0, f2, f3]; with_reducible exact rfl)) | (show RetQ _ _ (RP _ _) _ _; refine R_ret ?_ ?_) | refine Q_thenN ?_ | refine Q_thenR ?_ | fail)
    all_goals (try exact sd)
    all_goals (try refine F_done ?_)
    all_goals first | rfl | exact Nat.le_refl 1 | (simp; done) | skip
  ·have f2 : decide ((C.length : Int) < 2) = true := decide_eq_true (by omega)
   rw [decide_eq_false z2]
   repeat' (first | (show Ev _ _ _ _; first | refine Ev_seq ?_ | refine W_reg ?_ | refine W_ifT ?_ | refine W_ifF ?_ | refine Ev_skip ?_ | refine Ev_ret ?_) | (show EvD _ _ [] _ _ _; refine W_nil ?_) | (show EvD _ _ (⟨some _, .makeMap _ none, _, _, _, _⟩ :: _) _ _ _; refine W_mkmap ?_) | (show EvD _ _ (_ :: _) _ _ _; first | refine W_run tok ?_ ?_ (by simp (maxSteps := 1000000) (disch := omega) only [go_sem, f0, f2]; with_reducible exact rfl)) | (show RetQ _ _ (RP _ _) _ _; refine R_ret ?_ ?_) | refine Q_thenN ?_ | refine Q_thenR ?_ | fail)
   all_goals (try exact sd)
   all_goals (try refine F_done ?_)
   all_goals first | rfl | exact Nat.le_refl 1 | (simp; done) | skip
instance i_node_May (P : List PairB) (K : List (List UInt8)) (C : List Int) : Con Try.prog 24 [nodeD P K C] (P.length < 1099511627776 ∧ K.length < 1099511627776 ∧ C.length < 1099511627776) (.bool (mayN P K C)) := ⟨c_node_May P  K  C ⟩
end Go.Val.Ytgjmpefhjdgkoaa
