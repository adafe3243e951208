/- Chapter 09: whether pages are a tree, walked. -/
import Derived.Test.YtgjmpefhjdgkoaaN09p
import Derived.Test.YtgjmpefhjdgkoaaN08e
namespace Go.Val.Ytgjmpefhjdgkoaa
open Go Go.Val Go.Proofs Go.Proofs.Ytgjmpefhjdgkoaa
attribute [local irreducible] Ev EvD EvC thenQ blockQ RoundG RetQ
set_option maxRecDepth 100000
set_option maxHeartbeats 4000000
set_option linter.unusedSimpArgs false
set_option linter.unusedVariables false
instance : DecidableEq NodeB := inferInstanceAs (DecidableEq (List (List UInt8 × List UInt8) × List (List UInt8) × List Int))
def sizeN (x : NodeB) : Prop := x.1.length < 1099511627776 ∧ x.2.1.length < 1099511627776 ∧ x.2.2.length < 1099511627776
def mayD (x : NodeB) : Bool := mayN x.1 x.2.1 x.2.2
def pairsOf (N : List NodeB) : List PairB := N.flatMap (·.1)
def rightT (N : List NodeB) : Bool := allN N.length (fun i => mayD (N.getD i ([], [], []))) && (decide ((bldR (pairsOf N)).2 = 0) && decide ((bldR (pairsOf N)).1 = N))
theorem pairsOf_snoc {N : List NodeB} {i : Nat} (h : i < N.length) {P : List PairB} {K : List (List UInt8)} {C : List Int} (e : N.getD i ([], [], []) = (P, K, C)) : pairsOf (N.take i) ++ P = pairsOf (N.take (i + 1)) := by
 rw [List.take_add_one, List.getElem?_eq_getElem h]
 rw [List.getD_eq_getElem?_getD, List.getElem?_eq_getElem h] at e
 simp only [Option.getD_some] at e
 simp [pairsOf, e]
theorem pairsOf_le (N : List NodeB) (i : Nat) : (pairsOf (N.take i)).length ≤ (pairsOf N).length := by
 have : pairsOf N = pairsOf (N.take i) ++ pairsOf (N.drop i) := by
  rw [pairsOf, pairsOf, pairsOf, ← List.flatMap_append, List.take_append_drop]
 rw [this, List.length_append]; omega
theorem nget {N : List NodeB} {i : Nat} (h : i < N.length) : ∃ P K C, N.getD i ([], [], []) = (P, K, C) ∧ (nodesD N).getD i .undef = nodeD P K C ∧ (P, K, C) ∈ N := by
 refine ⟨N[i].1, N[i].2.1, N[i].2.2, ?_, ?_, List.getElem_mem h⟩
 ·simp [List.getD_eq_getElem?_getD, List.getElem?_eq_getElem h]
 ·simp [nodesD, List.getD_eq_getElem?_getD, List.getElem?_map, List.getElem?_eq_getElem h, nodeD3]
theorem c_slices_EqualFunc_s_api_Node_s_api_Node_api_Node_api_Node (N M : List NodeB) (hC : (N.length < 1099511627776 ∧ M.length < 1099511627776) ∧ (∀ x ∈ N, sizeN x) ∧ ∀ x ∈ M, sizeN x) : Pure Try.prog n_slices_EqualFunc_s_api_Node_s_api_Node_api_Node_api_Node [.sl (nodesD N), .sl (nodesD M), .fn (.func 70) [] []] (.bool (decide (N = M))) := by
 refine Pure.go tok (rs := [.tmp 6]) [.sl (nodesD N), .sl (nodesD M), .fn (.func 70) [] [], .undef, .undef, .undef, .undef, .undef, .undef, .undef, .undef, .undef, .undef, .undef, .undef, .undef, .undef, .undef, .undef, .undef, .undef, .undef, .undef, .undef, .undef, .undef, .undef, .undef, .undef, .undef, .undef, .undef] Try.func69 (fun σ => ?_)
 obtain ⟨⟨h1, h2⟩, h3, h4⟩ := hC
 have hsN := nodesD_len N
 have hsM := nodesD_len M
 by_cases l : N.length = M.length
 ·have d1 : decide ((N.length : Int) = (M.length : Int)) = true := decide_eq_true (by omega)
  obtain ⟨m, hm, hgood, hbad, hall⟩ := firstBad N.length (fun i => decide (N.getD i ([], [], []) = M.getD i ([], [], [])))
  rw [all_eq _ l] at hall
  rw [hall]
  repeat' (first | (show Ev _ _ _ _; first | refine Ev_seq ?_ | refine W_reg ?_ | refine Ev_block ?_ | refine W_ifF ?_ | refine Ev_skip ?_) | (show EvD _ _ [] _ _ _; refine W_nil ?_) | (show EvD _ _ (_ :: _) _ _ _; first | refine W_run tok ?_ ?_ (by simp (maxSteps := 1000000) (disch := omega) only [go_sem, wrap_i64_id, d1]; with_reducible exact rfl)) | refine Q_thenN ?_ | fail)
  all_goals (try exact sd)
  all_goals (try refine F_done ?_)
  refine Ev_lp (m) (fun i => [(17, i64 i)]) (fun i => σ) [6, 7, 8, 9, 18, 19, 20, 21, 22, 23, 24, 25, 26, 27, 28, 29, 30, 31] ?_ (by first | rfl | (simp only [List.take_zero, List.append_nil]; done)) (fun i hi => ?_)
  ·exact le1
  by_cases hi' : i < m
  ·obtain ⟨P, K, C, e1, g1, m1⟩ := nget (N := N) (i := i) (by omega)
   obtain ⟨P', K', C', e2, g2, m2⟩ := nget (N := M) (i := i) (by omega)
   have hd := hgood i hi'
   simp only [e1, e2, decide_eq_true_eq, Prod.mk.injEq] at hd
   obtain ⟨rfl, rfl, rfl⟩ := hd
   obtain ⟨s1, s2, s3⟩ := h3 _ m1
   simp only at s1 s2 s3
   have iS : Con Try.prog 70 [nodeD P K C, nodeD P K C] True (.bool true) := ⟨fun _ => by
    have := c_tree_same P K C P K C (by omega)
    simpa using this⟩
   repeat' (first | (show Ev _ _ _ _; first | refine Ev_seq ?_ | refine W_reg ?_ | refine Ev_block ?_ | refine W_ifF ?_ | refine W_ifY ?_ | refine Ev_skip ?_) | (show EvD _ _ [] _ _ _; refine W_nil ?_) | (show EvD _ _ (_ :: _) _ _ _; first | refine W_run tok ?_ ?_ (by simp (maxSteps := 1000000) (disch := omega) only [go_sem, wrap_i64_id, g1, g2]; with_reducible exact rfl) | refine W_callee ?_) | (show EvC _ _ _ _ _ _ _ _ _; refine W_con ?_ ?_) | refine Q_thenN ?_ | refine Q_blkN ?_ | fail)
   all_goals (try exact sd)
   all_goals (try refine F_done ?_)
   ·refine Q_rndC (Rb := σ.rows) (A := σ.boxes) (Mb := σ.maps) (R := []) (R' := []) (B := []) (B' := []) (M := []) (M' := []) ?_ (by omega) (by first | rfl | simp only [List.append_nil]) (by first | rfl | simp only [List.append_nil]) (by first | ((try simp only [List.append_nil, List.cons_append, List.nil_append, List.append_assoc]) <;> exact rfl) | exact (List.append_nil _).symm) (by first | ((try simp only [List.append_nil, List.cons_append, List.nil_append, List.append_assoc]) <;> exact rfl) | exact (List.append_nil _).symm) (by first | ((try simp only [List.append_nil, List.cons_append, List.nil_append, List.append_assoc]) <;> exact rfl) | exact (List.append_nil _).symm) (by simp) (by simp) (by simp) (by simp [nameds, DV.named, bytes_named, nameds_append, pairsD_named, strsD_named, kidsD_named, nodesD_named] <;> omega) (by repeat (first | exact allN_nil _ | refine allN_none ?_ | refine allN_some (by first | exact bytes_named _ _ _ _ | (simp [nameds, DV.named, bytes_named, nameds_append, pairsD_named, strsD_named, kidsD_named, nodesD_named] <;> omega)) ?_)) (by repeat (first | exact allN_nil _ | refine allN_none ?_ | refine allN_some (by first | exact bytes_named _ _ _ _ | (simp [nameds, DV.named, bytes_named, nameds_append, pairsD_named, strsD_named, kidsD_named, nodesD_named] <;> omega)) ?_)) (by simp)
    repeat (first | exact LeL.nil | refine LeL.cons2 ?_ (Le.undef _) | refine LeL.cons2 ?_ (Le.refl _) | refine LeL.cons2 ?_ (Le.sl _) | refine LeL.cons2 ?_ (Le.eq (by first | rfl | exact congrArg _ (by omega))) | refine LeL.cons2 ?_ (Le.eq ?_))
   all_goals trace_state
  ·obtain rfl : i = m := by omega
   by_cases hl : i < N.length
   ·obtain ⟨P, K, C, e1, g1, m1⟩ := nget (N := N) (i := i) (by omega)
    obtain ⟨P', K', C', e2, g2, m2⟩ := nget (N := M) (i := i) (by omega)
    have hd := hbad hl
    simp only [e1, e2] at hd
    obtain ⟨s1, s2, s3⟩ := h3 _ m1
    obtain ⟨t1, t2, t3⟩ := h4 _ m2
    simp only at s1 s2 s3 t1 t2 t3
    rw [decide_eq_false (by omega : ¬ i = N.length)]
    have iS : Con Try.prog 70 [nodeD P K C, nodeD P' K' C'] True (.bool false) := ⟨fun _ => by
     have := c_tree_same P K C P' K' C' (by omega)
     have e : (decide (P = P') && decide (K = K') && decide (C = C')) = false := by
      rw [decide_eq_false_iff_not, Prod.mk.injEq, Prod.mk.injEq] at hd
      rw [Bool.eq_false_iff]
      intro h
      simp only [Bool.and_eq_true, decide_eq_true_eq] at h
      exact hd ⟨h.1.1, h.1.2, h.2⟩
     rwa [e] at this⟩
    repeat' (first | (show Ev _ _ _ _; first | refine Ev_seq ?_ | refine W_reg ?_ | refine Ev_block ?_ | refine W_ifT ?_ | refine W_ifY ?_ | refine Ev_skip ?_ | refine Ev_ret ?_) | (show EvD _ _ [] _ _ _; refine W_nil ?_) | (show EvD _ _ (_ :: _) _ _ _; first | refine W_run tok ?_ ?_ (by simp (maxSteps := 1000000) (disch := omega) only [go_sem, wrap_i64_id, g1, g2]; with_reducible exact rfl) | refine W_callee ?_) | (show EvC _ _ _ _ _ _ _ _ _; refine W_con ?_ ?_) | (show RetQ _ _ (RP _ _) _ _; refine R_ret ?_ ?_) | refine Q_thenN ?_ | refine Q_thenR ?_ | refine Q_blkR ?_ | refine Q_rndR ?_ | fail)
    all_goals (try exact sd)
    all_goals (try refine F_done ?_)
    all_goals first | rfl | trace_state
   ·rw [decide_eq_true (by omega : i = N.length)]
    repeat' (first | (show Ev _ _ _ _; first | refine Ev_seq ?_ | refine W_reg ?_ | refine W_ifN ?_ | refine Ev_exit ?_ | refine Ev_ret ?_) | (show EvD _ _ [] _ _ _; refine W_nil ?_) | (show EvD _ _ (_ :: _) _ _ _; first | refine W_run tok ?_ ?_ (by simp (maxSteps := 1000000) (disch := omega) only [go_sem, wrap_i64_id]; with_reducible exact rfl)) | (show RetQ _ _ (RP _ _) _ _; refine R_ret ?_ ?_) | refine Q_thenN ?_ | refine Q_thenE ?_ | refine Q_blkE ?_ | refine Q_rndE ?_ | fail)
    all_goals (try exact sd)
    all_goals (try refine F_done ?_)
    all_goals first | rfl | trace_state
 ·have d1 : decide ((N.length : Int) = (M.length : Int)) = false := decide_eq_false (by omega)
  rw [decide_eq_false (fun h => l (congrArg List.length h))]
  repeat' (first | (show Ev _ _ _ _; first | refine Ev_seq ?_ | refine W_reg ?_ | refine W_ifT ?_ | refine Ev_ret ?_) | (show EvD _ _ [] _ _ _; refine W_nil ?_) | (show EvD _ _ (_ :: _) _ _ _; first | refine W_run tok ?_ ?_ (by simp (maxSteps := 1000000) (disch := omega) only [go_sem, wrap_i64_id, d1]; with_reducible exact rfl)) | (show RetQ _ _ (RP _ _) _ _; refine R_ret ?_ ?_) | refine Q_thenN ?_ | refine Q_thenR ?_ | fail)
  all_goals (try exact sd)
  all_goals (try refine F_done ?_)
  all_goals first | rfl | trace_state
instance i_slices_EqualFunc_s_api_Node_s_api_Node_api_Node_api_Node (N M : List NodeB) : Con Try.prog 69 [.sl (nodesD N), .sl (nodesD M), .fn (.func 70) [] []] ((N.length < 1099511627776 ∧ M.length < 1099511627776) ∧ (∀ x ∈ N, sizeN x) ∧ ∀ x ∈ M, sizeN x) (.bool (decide (N = M))) := ⟨c_slices_EqualFunc_s_api_Node_s_api_Node_api_Node_api_Node N M ⟩
theorem okS_size {x : NodeB} (h : okS x) : sizeN x := by
 obtain ⟨a, b, c⟩ := h
 exact ⟨by omega, by omega, by omega⟩
theorem c_tree_Right (N : List NodeB) (hC : N.length ≤ 3000 ∧ (∀ x ∈ N, sizeN x) ∧ (pairsOf N).length ≤ 3000) : Pure Try.prog n_tree_Right [.sl (nodesD N)] (.bool (rightT N)) := by
 refine Pure.go tok (rs := [.tmp 2]) [.sl (nodesD N), .undef, .undef, .undef, .undef, .undef, .undef, .undef, .undef, .undef, .undef, .undef, .undef, .undef, .undef, .undef, .undef, .undef, .undef, .undef, .undef, .undef, .undef, .undef, .undef, .undef, .undef, .undef, .undef, .undef, .undef, .undef, .undef, .undef] Try.func39 (fun σ => ?_)
 obtain ⟨h1, h2, h3⟩ := hC
 have hsN := nodesD_len N
 obtain ⟨m, hm, hgood, hbad, hall⟩ := firstBad N.length (fun i => mayD (N.getD i ([], [], [])))
 have hr : rightT N = (decide (m = N.length) && (decide ((bldR (pairsOf N)).2 = 0) && decide ((bldR (pairsOf N)).1 = N))) := by rw [rightT, hall]
 have iB : Con Try.prog 13 [.sl (pairsD (pairsOf N))] True (.tup [.sl (nodesD (bldR (pairsOf N)).1), .int .i64 (bldR (pairsOf N)).2]) := ⟨fun _ => Pure_ans (c_tree_Build _ h3) (bldX_le _)⟩
 have iE : Con Try.prog 69 [.sl (nodesD (bldR (pairsOf N)).1), .sl (nodesD N), .fn (.func 70) [] []] True (.bool (decide ((bldR (pairsOf N)).1 = N))) := ⟨fun _ => c_slices_EqualFunc_s_api_Node_s_api_Node_api_Node_api_Node _ _ ⟨⟨by have := bld_len h3; omega, by omega⟩, fun x hx => okS_size (okS_bld _ x hx), h2⟩⟩
 rw [hr]
 generalize bldR (pairsOf N) = B at iB iE
 repeat' (first | (show Ev _ _ _ _; first | refine Ev_seq ?_ | refine W_reg ?_ | refine Ev_block ?_) | (show EvD _ _ [] _ _ _; refine W_nil ?_) | (show EvD _ _ (_ :: _) _ _ _; first | refine W_run tok ?_ ?_ (by simp (maxSteps := 1000000) (disch := omega) only [go_sem, wrap_i64_id]; with_reducible exact rfl)) | refine Q_thenN ?_ | fail)
 all_goals (try exact sd)
 all_goals (try refine F_done ?_)
 refine Ev_seed 3 39 2 rfl (by decide) (by simp only [List.set_cons_succ, List.set_cons_zero]; exact rfl) ?_
 refine Ev_lp (m) (fun i => [(3, .row σ.rows.length (pairsOf (N.take i)).length), (10, i64 i)]) (fun i => ⟨σ.rows ++ [some ⟨pairsD (pairsOf (N.take i)), 39, 2⟩], σ.boxes, σ.maps⟩) [2, 5, 11, 12, 13, 14, 15, 16, 17, 18, 19, 20, 21] ?_ (by simp [pairsOf, pairsD]) (fun i hi => ?_)
 ·exact le1
 have hle := pairsOf_le N i
 have hpl := pairsD_len (pairsOf (N.take i))
 by_cases hi' : i < m
 ·obtain ⟨P, K, C, e1, g1, m1⟩ := nget (N := N) (i := i) (by omega)
  have hd := hgood i hi'
  simp only [e1, mayD] at hd
  obtain ⟨s1, s2, s3⟩ := h2 _ m1
  simp only at s1 s2 s3
  have hsn := pairsOf_snoc (by omega) e1
  have iM : Con Try.prog 24 [nodeD P K C] True (.bool true) := ⟨fun _ => by
   have := c_node_May P K C (by omega)
   rwa [hd] at this⟩
  have hs2 : pairsD (pairsOf (N.take i)) ++ pairsD P = pairsD (pairsOf (N.take (i + 1))) := by rw [← hsn]; simp [pairsD]
  have hpl2 : (pairsOf (N.take i)).length + P.length = (pairsOf (N.take (i + 1))).length := by rw [← hsn]; simp
  have hP5 := pairsD_len P
  have hle2 := pairsOf_le N (i + 1)
  repeat' (first | (show Ev _ _ _ _; first | refine Ev_seq ?_ | refine W_reg ?_ | refine Ev_block ?_ | refine W_ifF ?_ | refine W_ifY ?_ | refine Ev_skip ?_) | (show EvD _ _ [] _ _ _; refine W_nil ?_) | (show EvD _ _ (_ :: _) _ _ _; first | refine W_run tok ?_ ?_ (by simp (maxSteps := 1000000) (disch := omega) only [go_sem, wrap_i64_id, g1]; with_reducible exact rfl) | refine W_callee ?_) | (show EvC _ _ _ _ _ _ _ _ _; refine W_con ?_ ?_) | refine Q_thenN ?_ | refine Q_blkN ?_ | fail)
  all_goals (try exact sd)
  all_goals (try refine F_done ?_)
  ·refine Q_rndC (Rb := σ.rows) (A := σ.boxes) (Mb := σ.maps) (R := ((fun i => [some ⟨pairsD (pairsOf (N.take i)), 39, 2⟩]) (i))) (R' := ((fun i => [some ⟨pairsD (pairsOf (N.take i)), 39, 2⟩]) (i + 1))) (B := []) (B' := []) (M := []) (M' := []) ?_ (by omega) (by first | rfl | simp only [List.append_nil]) (by first | rfl | simp only [List.append_nil]) (by first | ((try simp only [List.append_nil, List.cons_append, List.nil_append, List.append_assoc, hs2]) <;> exact rfl) | exact (List.append_nil _).symm) (by first | ((try simp only [List.append_nil, List.cons_append, List.nil_append, List.append_assoc, hs2]) <;> exact rfl) | exact (List.append_nil _).symm) (by first | ((try simp only [List.append_nil, List.cons_append, List.nil_append, List.append_assoc, hs2]) <;> exact rfl) | exact (List.append_nil _).symm) (by simp) (by simp) (by simp) (by simp [nameds, DV.named, bytes_named, nameds_append, pairsD_named, strsD_named, kidsD_named, nodesD_named] <;> omega) (by repeat (first | exact allN_nil _ | refine allN_none ?_ | refine allN_some (by first | exact bytes_named _ _ _ _ | (simp [nameds, DV.named, bytes_named, nameds_append, pairsD_named, strsD_named, kidsD_named, nodesD_named] <;> omega)) ?_)) (by repeat (first | exact allN_nil _ | refine allN_none ?_ | refine allN_some (by first | exact bytes_named _ _ _ _ | (simp [nameds, DV.named, bytes_named, nameds_append, pairsD_named, strsD_named, kidsD_named, nodesD_named] <;> omega)) ?_)) (by simp)
   repeat (first | exact LeL.nil | refine LeL.cons2 ?_ (Le.undef _) | refine LeL.cons2 ?_ (Le.refl _) | refine LeL.cons2 ?_ (Le.sl _) | refine LeL.cons2 ?_ (Le.eq (by first | rfl | exact congrArg _ (by omega))) | refine LeL.cons2 ?_ (Le.eq ?_))
  all_goals first | exact ⟨of_eq_true (pairsD_two P), of_eq_true (pairsD_c1 _ P), by omega⟩ | trace_state
 ·obtain rfl : i = m := by omega
  by_cases hl : i < N.length
  ·obtain ⟨P, K, C, e1, g1, m1⟩ := nget (N := N) (i := i) (by omega)
   have hd := hbad hl
   simp only [e1, mayD] at hd
   obtain ⟨s1, s2, s3⟩ := h2 _ m1
   simp only at s1 s2 s3
   have iM : Con Try.prog 24 [nodeD P K C] True (.bool false) := ⟨fun _ => by
    have := c_node_May P K C (by omega)
    rwa [hd] at this⟩
   rw [decide_eq_false (by omega : ¬ i = N.length), Bool.false_and]
   repeat' (first | (show Ev _ _ _ _; first | refine Ev_seq ?_ | refine W_reg ?_ | refine Ev_block ?_ | refine W_ifT ?_ | refine W_ifY ?_ | refine Ev_skip ?_ | refine Ev_ret ?_) | (show EvD _ _ [] _ _ _; refine W_nil ?_) | (show EvD _ _ (_ :: _) _ _ _; first | refine W_run tok ?_ ?_ (by simp (maxSteps := 1000000) (disch := omega) only [go_sem, wrap_i64_id, g1]; with_reducible exact rfl) | refine W_callee ?_) | (show EvC _ _ _ _ _ _ _ _ _; refine W_con ?_ ?_) | (show RetQ _ _ (RP _ _) _ _; refine R_ret ?_ ?_) | refine Q_thenN ?_ | refine Q_thenR ?_ | refine Q_blkR ?_ | refine Q_rndR ?_ | fail)
   all_goals (try exact sd)
   all_goals (try refine F_done ?_)
   all_goals first | rfl | trace_state
  ·obtain rfl : i = N.length := by omega
   rw [decide_eq_true rfl, Bool.true_and]
   rw [List.take_length] at hpl ⊢
   by_cases hb : B.2 = 0
   ·have db : decide ((B.2 : Int) = 0) = true := decide_eq_true (by omega)
    rw [decide_eq_true hb, Bool.true_and]
    repeat' (first | (show Ev _ _ _ _; first | refine Ev_seq ?_ | refine W_reg ?_ | refine W_ifN ?_ | refine Ev_exit ?_ | refine Ev_ret ?_) | (show EvD _ _ [] _ _ _; refine W_nil ?_) | (show EvD _ _ (_ :: _) _ _ _; first | refine W_run tok ?_ ?_ (by simp (maxSteps := 1000000) (disch := omega) only [go_sem, wrap_i64_id, db]; with_reducible exact rfl) | refine W_callee ?_) | (show EvC _ _ _ _ _ _ _ _ _; first | refine W_con ?_ ?_ | refine W_frzArg ?_) | (show RetQ _ _ (RP _ _) _ _; refine R_ret ?_ ?_) | refine Q_thenN ?_ | refine Q_thenE ?_ | refine Q_blkE ?_ | refine Q_rndE ?_ | fail)
    all_goals (try exact sd)
    all_goals (try refine F_done ?_)
    all_goals first | rfl | trace_state
   ·have db : decide ((B.2 : Int) = 0) = false := decide_eq_false (by omega)
    rw [decide_eq_false hb, Bool.false_and]
    repeat' (first | (show Ev _ _ _ _; first | refine Ev_seq ?_ | refine W_reg ?_ | refine W_ifN ?_ | refine Ev_exit ?_ | refine Ev_ret ?_) | (show EvD _ _ [] _ _ _; refine W_nil ?_) | (show EvD _ _ (_ :: _) _ _ _; first | refine W_run tok ?_ ?_ (by simp (maxSteps := 1000000) (disch := omega) only [go_sem, wrap_i64_id, db]; with_reducible exact rfl) | refine W_callee ?_) | (show EvC _ _ _ _ _ _ _ _ _; first | refine W_con ?_ ?_ | refine W_frzArg ?_) | (show RetQ _ _ (RP _ _) _ _; refine R_ret ?_ ?_) | refine Q_thenN ?_ | refine Q_thenE ?_ | refine Q_blkE ?_ | refine Q_rndE ?_ | fail)
    all_goals (try exact sd)
    all_goals (try refine F_done ?_)
    all_goals first | rfl | trace_state
instance i_tree_Right (N : List NodeB) : Con Try.prog 39 [.sl (nodesD N)] (N.length ≤ 3000 ∧ (∀ x ∈ N, sizeN x) ∧ (pairsOf N).length ≤ 3000) (.bool (rightT N)) := ⟨c_tree_Right N ⟩
end Go.Val.Ytgjmpefhjdgkoaa
