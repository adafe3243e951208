/- Chapter 09: the statement that a tree is built as the reference builds it, walked. -/
import Derived.Test.YtgjmpefhjdgkoaaN09g
import Derived.Test.YtgjmpefhjdgkoaaN09d
import Derived.Test.YtgjmpefhjdgkoaaN08h
namespace Go.Val.Ytgjmpefhjdgkoaa
open Go Go.Val Go.Proofs Go.Proofs.Ytgjmpefhjdgkoaa
attribute [local irreducible] Ev EvD EvC thenQ blockQ RoundG RetQ
set_option maxRecDepth 100000
set_option maxHeartbeats 4000000
set_option linter.unusedSimpArgs false
set_option linter.unusedVariables false
def okS (x : NodeB) : Prop := x.1.length ≤ 8 ∧ x.2.1.length ≤ 8 ∧ x.2.2.length ≤ 8
theorem okS_bst (P : List PairB) : ∀ r, r ≤ rdC (nL P.length) → ∀ x ∈ (bst P r).1, okS x
 | 0, _, x, hx => by
  simp only [bst, leaves, List.mem_map] at hx
  obtain ⟨i, _, rfl⟩ := hx
  have := (pcl_len P i).1
  exact ⟨by simp only; omega, by simp, by simp⟩
 | r + 1, hr, x, hx => by
  simp only [bst, List.mem_append] at hx
  rcases hx with hx | hx
  ·exact okS_bst P r (by omega) x hx
  ·simp only [nodesG, List.mem_map, List.mem_range] at hx
   obtain ⟨i, hi, rfl⟩ := hx
   have hg1 : 1 < (bst P r).2.length := by rw [bst_len]; exact rdC_lt (by omega)
   have := grp_len hg1 hi
   refine ⟨by simp, ?_, ?_⟩
   ·simp only [keysG_len]; omega
   ·simp only [kidsG_len]; omega
theorem okS_bld (P : List PairB) : ∀ x ∈ (bldR P).1, okS x := by
 unfold bldR
 split
 ·simp
 ·split
  ·simp
  ·exact okS_bst P _ (Nat.le_refl _)
theorem bld_len {P : List PairB} (h : P.length ≤ 3000) : (bldR P).1.length ≤ 3000 := by
 unfold bldR
 split
 ·simp
 ·split
  ·simp
  ·show (bst P _).1.length ≤ _
   rw [bst_all]
   have := sumL_le (nL_le h) (rdC (nL P.length)); have := rdC_le (nL P.length); omega
theorem nodesD_get {N : List NodeB} {i : Nat} (h : i < N.length) : ∃ P K C, (nodesD N).getD i .undef = nodeD P K C ∧ (P, K, C) ∈ N := by
 refine ⟨N[i].1, N[i].2.1, N[i].2.2, ?_, List.getElem_mem h⟩
 simp [nodesD, List.getD_eq_getElem?_getD, List.getElem?_map, List.getElem?_eq_getElem h, nodeD3]
theorem c_bursarref09_Same (N : List NodeB) (hC : N.length ≤ 3000 ∧ ∀ x ∈ N, okS x) : Pure Try.prog n_bursarref09_Same [.sl (nodesD N), .sl (nodesD N)] (.bool true) := by
 refine Pure.go tok (rs := [.tmp 4]) [.sl (nodesD N), .sl (nodesD N), .undef, .undef, .undef, .undef, .undef, .undef, .undef, .undef, .undef, .undef, .undef, .undef, .undef, .undef, .undef, .undef, .undef, .undef, .undef, .undef, .undef, .undef, .undef, .undef, .undef] Try.func15 (fun σ => ?_)
 obtain ⟨h1, h2⟩ := hC
 have hl := nodesD_len N
 repeat' (first | (show Ev _ _ _ _; first | refine Ev_seq ?_ | refine W_reg ?_ | refine Ev_block ?_ | refine W_ifF ?_ | refine Ev_skip ?_) | (show EvD _ _ [] _ _ _; refine W_nil ?_) | (show EvD _ _ (_ :: _) _ _ _; first | refine W_run tok ?_ ?_ (by simp (maxSteps := 1000000) (disch := omega) only [go_sem, wrap_i64_id]; with_reducible exact rfl)) | refine Q_thenN ?_ | fail)
 all_goals (try exact sd)
 all_goals (try refine F_done ?_)
 refine Ev_lp (N.length) (fun i => [(5, i64 i)]) (fun i => σ) [4, 11, 12, 13, 14, 15, 16, 17, 18, 19, 20, 21, 22, 23, 24, 25, 26] ?_ (by first | rfl | (simp only [List.take_zero, List.append_nil]; done)) (fun i hi => ?_)
 ·exact le1
 by_cases hi' : i < N.length
 ·obtain ⟨P, K, C, hg, hm⟩ := nodesD_get hi'
  obtain ⟨s1, s2, s3⟩ := h2 _ hm
  simp only at s1 s2 s3
  have iS : Con Try.prog 33 [nodeD P K C, nodeD P K C] True (.bool true) := ⟨fun _ => by
   have := c_bursarref08_Same P K C P K C (by omega)
   simpa using this⟩
  repeat' (first | (show Ev _ (.region _ _ true) _ _; refine D_start [50, 51, 76, 78, 82, 90, 92] mix ?_) | (show DrD _ _ _ [] _ _ _ _; refine D_nil ?_; try dsimp only) | (show DrD _ (EB _ _) _ (_ :: _) _ _ _ _; first | refine D_runL tok ?_ ?_ (h := by intro R; simp (maxSteps := 1000000) (disch := omega) only [go_sem, wrap_i64_id, hg]; with_reducible exact rfl)) | (show DrD _ _ _ (_ :: _) _ _ _ _; refine D_con ?_ ?_) | (show Ev _ _ _ _; first | refine Ev_seq ?_ | refine W_reg ?_ | refine Ev_block ?_ | refine W_ifF ?_ | refine W_ifY ?_ | refine Ev_skip ?_) | (show EvD _ _ [] _ _ _; refine W_nil ?_) | (show EvD _ _ (_ :: _) _ _ _; first | refine W_run tok ?_ ?_ (by simp (maxSteps := 1000000) (disch := omega) only [go_sem, wrap_i64_id, hg]; with_reducible exact rfl)) | refine Q_thenN ?_ | refine Q_blkN ?_ | fail)
  all_goals (try exact sd)
  all_goals (try refine F_done ?_)
  refine Q_rndN ?_ (by omega) ?_
  rotate_left
  ·rfl
  repeat (first | exact LeL.nil | refine LeL.cons2 ?_ (Le.undef _) | refine LeL.cons2 ?_ (Le.refl _) | refine LeL.cons2 ?_ (Le.sl _) | refine LeL.cons2 ?_ (Le.eq (by first | rfl | exact congrArg _ (by omega))) | refine LeL.cons2 ?_ (Le.eq ?_))
 ·obtain rfl : i = N.length := by omega
  repeat' (first | (show Ev _ _ _ _; first | refine Ev_seq ?_ | refine W_reg ?_ | refine W_ifN ?_ | refine Ev_exit ?_ | refine Ev_ret ?_) | (show EvD _ _ [] _ _ _; refine W_nil ?_) | (show EvD _ _ (_ :: _) _ _ _; first | refine W_run tok ?_ ?_ (by simp (maxSteps := 1000000) (disch := omega) only [go_sem, wrap_i64_id]; with_reducible exact rfl)) | (show RetQ _ _ (RP _ _) _ _; refine R_ret ?_ ?_) | refine Q_thenN ?_ | refine Q_thenE ?_ | refine Q_blkE ?_ | refine Q_rndE ?_ | fail)
  all_goals (try exact sd)
  all_goals (try refine F_done ?_)
  all_goals rfl
instance i_bursarref09_Same (N : List NodeB) : Con Try.prog 15 [.sl (nodesD N), .sl (nodesD N)] (N.length ≤ 3000 ∧ ∀ x ∈ N, okS x) (.bool true) := ⟨c_bursarref09_Same N ⟩
def t70 (s : List UInt8) : List UInt8 := s.take 70
def tp9 (p : PairB) : PairB := (t70 p.1, t70 p.2)
theorem pairsD_take9 (P : List PairB) (n : Nat) : (pairsD P).take n = pairsD (P.take n) := by simp [pairsD]
theorem pairsD_snoc9 (P : List PairB) (k v : List UInt8) : pairsD P ++ [.agg [.str k, .str v]] = pairsD (P ++ [(k, v)]) := by simp [pairsD, pairD]
theorem map_take9 {α β : Type} (f : α → β) (d : α) {l : List α} {i : Nat} (h : i < l.length) : (l.take (i + 1)).map f = (l.take i).map f ++ [f (l.getD i d)] := by
 rw [List.take_add_one, List.getElem?_eq_getElem h, List.map_append, List.getD_eq_getElem?_getD, List.getElem?_eq_getElem h]; rfl
abbrev lenP9 (P : List PairB) : Prop := ∀ i, i < P.length → (P.getD i ([], [])).1.length ≤ 9223372036854775807 ∧ (P.getD i ([], [])).2.length ≤ 9223372036854775807
theorem lenP9_take {P : List PairB} (h : lenP9 P) (n : Nat) : lenP9 (P.take n) := by
 intro i hi
 have hi' : i < P.length := by simp at hi; omega
 have e : (P.take n).getD i ([], []) = P.getD i ([], []) := by
  rw [List.getD_eq_getElem?_getD, List.getD_eq_getElem?_getD, List.getElem?_eq_getElem hi, List.getElem?_eq_getElem hi', List.getElem_take]
 rw [e]; exact h i hi'
theorem lenP9_of {P : List PairB} (h : ∀ a ∈ P, a.1.length ≤ 9223372036854775807 ∧ a.2.length ≤ 9223372036854775807) : lenP9 P := fun i hi => h _ (by
 rw [List.getD_eq_getElem?_getD, List.getElem?_eq_getElem hi]; exact List.getElem_mem hi)
theorem c_bursarlaw09_text (s : List UInt8) (hC : s.length ≤ 9223372036854775807) : Pure Try.prog n_bursarlaw09_text [.str s] (.str (t70 s)) := by
 refine Pure.go tok (rs := [.tmp 2]) [.str s, .undef, .undef, .undef, .undef, .undef, .undef, .undef, .undef] Try.func35 (fun σ => ?_)
 unfold t70
 by_cases h : 70 < s.length
 ·repeat' (first | (show Ev _ _ _ _; first | refine Ev_seq ?_ | refine W_reg ?_ | refine W_ifY ?_ | refine Ev_ret ?_) | (show EvD _ _ [] _ _ _; refine W_nil ?_) | (show EvD _ _ (_ :: _) _ _ _; first | refine W_run tok ?_ ?_ (by simp (maxSteps := 1000000) (disch := omega) only [go_sem, List.drop_zero]; with_reducible exact rfl)) | (show RetQ _ _ (RP _ _) _ _; refine R_ret ?_ ?_) | refine Q_thenN ?_ | refine Q_thenR ?_ | fail)
  all_goals (try exact sd)
  all_goals (try refine F_done ?_)
  all_goals rfl
 ·rw [List.take_of_length_le (by omega : s.length ≤ 70)]
  repeat' (first | (show Ev _ _ _ _; first | refine Ev_seq ?_ | refine W_reg ?_ | refine W_ifN ?_ | refine Ev_skip ?_ | refine Ev_ret ?_) | (show EvD _ _ [] _ _ _; refine W_nil ?_) | (show EvD _ _ (_ :: _) _ _ _; refine W_run tok ?_ ?_) | (show RetQ _ _ (RP _ _) _ _; refine R_ret ?_ ?_) | refine Q_thenN ?_ | fail)
  all_goals (try exact sd)
  all_goals (try refine F_done ?_)
  all_goals rfl
instance i_bursarlaw09_text (s : List UInt8) : Con Try.prog 35 [.str s] (s.length ≤ 9223372036854775807) (.str (t70 s)) := ⟨c_bursarlaw09_text s ⟩
theorem c_bursarlaw09_few (P : List PairB) (hC : P.length ≤ 140737488355328 ∧ lenP9 P) : Pure Try.prog n_bursarlaw09_few [.sl (pairsD P)] (.sl (pairsD ((P.take 120).map tp9))) := by
 refine Pure.go tok (rs := [.tmp 2]) [.sl (pairsD P), .undef, .undef, .undef, .undef, .undef, .undef, .undef, .undef, .undef, .undef, .undef, .undef, .undef, .undef, .undef, .undef, .undef, .undef, .undef, .undef, .undef, .undef, .undef, .undef, .undef, .undef, .undef, .undef, .undef, .undef, .undef, .undef] Try.func12 (fun σ => ?_)
 have hsP := pairsD_len P
 have hP9 := lenP9_take hC.2 120
 have n9 : (P.take 120).length ≤ 120 := by simp; omega
 obtain ⟨A, hA⟩ : ∃ A, A = P.take 120 := ⟨_, rfl⟩
 rw [← hA] at hP9 n9 ⊢
 have hsA := pairsD_len A
 have tA := (pairsD_take9 P 120).trans (congrArg pairsD hA.symm)
 by_cases c1 : 120 < P.length
 ·have hAl : A.length = 120 := by rw [hA, List.length_take]; omega
  repeat' (first | (show Ev _ _ _ _; first | refine Ev_seq ?_ | refine W_reg ?_ | refine Ev_block ?_ | refine W_ifY ?_) | (show EvD _ _ [] _ _ _; refine W_nil ?_) | (show EvD _ _ (_ :: _) _ _ _; first | refine W_run tok ?_ ?_ (by simp (maxSteps := 1000000) (disch := omega) only [go_sem, wrap_i64_id, tA]; with_reducible exact rfl)) | refine Q_thenN ?_ | fail)
  all_goals (try exact sd)
  all_goals (try refine F_done ?_)
  refine Ev_seed 3 39 2 rfl (by decide) (by simp only [List.set_cons_succ, List.set_cons_zero]; exact rfl) ?_
  refine Ev_lp (A.length) (fun i => [(3, .row σ.rows.length i), (4, i64 i)]) (fun i => ⟨σ.rows ++ [some ⟨pairsD ((A.take i).map tp9), 39, 2⟩], σ.boxes, σ.maps⟩) [10, 11, 12, 13, 14, 15, 16, 17, 18, 19, 20, 21, 22, 23, 24, 25, 26, 27, 28, 29, 30, 31] ?_ (by first | rfl | (simp only [List.take_zero, List.append_nil]; done)) (fun i hi => ?_)
  ·exact le1
  have hml : ((A.take i).map tp9).length = i := by rw [List.length_map, List.length_take]; omega
  by_cases hi' : i < A.length
  ·obtain ⟨k, v, hk, hg⟩ := pget hi'
   have hkv := hP9 i hi'
   rw [hk] at hkv
   simp only at hkv
   have ht := map_take9 tp9 ([], []) hi'
   rw [hk] at ht
   repeat' (first | (show Ev _ (.region _ _ true) _ _; refine D_start [50, 51, 76, 78, 82, 90, 92] mix ?_) | (show DrD _ _ _ [] _ _ _ _; refine D_nil ?_; try dsimp only) | (show DrD _ (EB _ _) _ (_ :: _) _ _ _ _; first | refine D_runL tok ?_ ?_ (h := by intro R; simp (maxSteps := 1000000) (disch := omega) only [go_sem, wrap_i64_id, hg, hml]; with_reducible exact rfl)) | (show DrD _ _ _ (_ :: _) _ _ _ _; first | refine D_con ?_ ?_ | refine D_eff tok ?_ ?_) | (show Ev _ _ _ _; first | refine Ev_seq ?_ | refine W_reg ?_ | refine Ev_block ?_ | refine W_ifY ?_ | refine Ev_skip ?_) | (show EvD _ _ [] _ _ _; refine W_nil ?_) | (show EvD _ _ (_ :: _) _ _ _; first | refine W_run tok ?_ ?_ (by simp (maxSteps := 1000000) (disch := omega) only [go_sem, wrap_i64_id, hg, hml]; with_reducible exact rfl)) | refine Q_thenN ?_ | refine Q_blkN ?_ | fail)
   all_goals (try exact sd)
   all_goals (try refine F_done ?_)
   refine Q_rndC (Rb := σ.rows) (A := σ.boxes) (Mb := σ.maps) (R := ((fun i => [some ⟨pairsD ((A.take i).map tp9), 39, 2⟩]) (i))) (R' := ((fun i => [some ⟨pairsD ((A.take i).map tp9), 39, 2⟩]) (i + 1))) (B := []) (B' := []) (M := []) (M' := []) ?_ (by omega) (by first | rfl | simp only [List.append_nil]) (by first | rfl | simp only [List.append_nil]) (by first | ((try simp only [List.append_nil, List.cons_append, List.nil_append, List.append_assoc, ht, pairsD_snoc9]) <;> exact rfl) | exact (List.append_nil _).symm) (by first | ((try simp only [List.append_nil, List.cons_append, List.nil_append, List.append_assoc, ht, pairsD_snoc9]) <;> exact rfl) | exact (List.append_nil _).symm) (by first | ((try simp only [List.append_nil, List.cons_append, List.nil_append, List.append_assoc, ht, pairsD_snoc9]) <;> exact rfl) | exact (List.append_nil _).symm) (by simp) (by simp) (by simp) (by simp [nameds, DV.named, bytes_named, nameds_append, pairsD_named] <;> omega) (by repeat (first | exact allN_nil _ | refine allN_none ?_ | refine allN_some (by first | exact bytes_named _ _ _ _ | (simp [nameds, DV.named, bytes_named, nameds_append, pairsD_named] <;> omega)) ?_)) (by repeat (first | exact allN_nil _ | refine allN_none ?_ | refine allN_some (by first | exact bytes_named _ _ _ _ | (simp [nameds, DV.named, bytes_named, nameds_append, pairsD_named] <;> omega)) ?_)) (by simp)
   repeat (first | exact LeL.nil | refine LeL.cons2 ?_ (Le.undef _) | refine LeL.cons2 ?_ (Le.refl _) | refine LeL.cons2 ?_ (Le.sl _) | refine LeL.cons2 ?_ (Le.eq (by first | rfl | exact congrArg _ (by omega))) | refine LeL.cons2 ?_ (Le.eq ?_))
  ·obtain rfl : i = A.length := by omega
   rw [List.take_length] at hml ⊢
   repeat' (first | (show Ev _ _ _ _; first | refine Ev_seq ?_ | refine W_reg ?_ | refine W_ifN ?_ | refine Ev_exit ?_ | refine Ev_ret ?_) | (show EvD _ _ [] _ _ _; refine W_nil ?_) | (show EvD _ _ (_ :: _) _ _ _; first | refine W_run tok ?_ ?_ (by simp (maxSteps := 1000000) (disch := omega) only [go_sem, wrap_i64_id, hml]; with_reducible exact rfl)) | (show RetQ _ _ (RP _ _) _ _; refine R_ret ?_ ?_) | (show FrzTo _ _ _ _; refine F_row ?_) | refine Q_thenN ?_ | refine Q_thenE ?_ | refine Q_blkE ?_ | refine Q_rndE ?_ | fail)
   all_goals (try exact sd)
   all_goals (try refine F_done ?_)
   all_goals first | rfl | (simp; done) | trace_state
 ·obtain rfl : A = P := by rw [hA, List.take_of_length_le (by omega)]
  repeat' (first | (show Ev _ _ _ _; first | refine Ev_seq ?_ | refine W_reg ?_ | refine Ev_block ?_ | refine W_ifN ?_ | refine Ev_skip ?_) | (show EvD _ _ [] _ _ _; refine W_nil ?_) | (show EvD _ _ (_ :: _) _ _ _; first | refine W_run tok ?_ ?_ (by simp (maxSteps := 1000000) (disch := omega) only [go_sem, wrap_i64_id]; with_reducible exact rfl)) | refine Q_thenN ?_ | fail)
  all_goals (try exact sd)
  all_goals (try refine F_done ?_)
  refine Ev_seed 3 39 2 rfl (by decide) (by simp only [List.set_cons_succ, List.set_cons_zero]; exact rfl) ?_
  refine Ev_lp (A.length) (fun i => [(3, .row σ.rows.length i), (4, i64 i)]) (fun i => ⟨σ.rows ++ [some ⟨pairsD ((A.take i).map tp9), 39, 2⟩], σ.boxes, σ.maps⟩) [10, 11, 12, 13, 14, 15, 16, 17, 18, 19, 20, 21, 22, 23, 24, 25, 26, 27, 28, 29, 30, 31] ?_ (by first | rfl | (simp only [List.take_zero, List.append_nil]; done)) (fun i hi => ?_)
  ·exact le1
  have hml : ((A.take i).map tp9).length = i := by rw [List.length_map, List.length_take]; omega
  by_cases hi' : i < A.length
  ·obtain ⟨k, v, hk, hg⟩ := pget hi'
   have hkv := hP9 i hi'
   rw [hk] at hkv
   simp only at hkv
   have ht := map_take9 tp9 ([], []) hi'
   rw [hk] at ht
   repeat' (first | (show Ev _ (.region _ _ true) _ _; refine D_start [50, 51, 76, 78, 82, 90, 92] mix ?_) | (show DrD _ _ _ [] _ _ _ _; refine D_nil ?_; try dsimp only) | (show DrD _ (EB _ _) _ (_ :: _) _ _ _ _; first | refine D_runL tok ?_ ?_ (h := by intro R; simp (maxSteps := 1000000) (disch := omega) only [go_sem, wrap_i64_id, hg, hml]; with_reducible exact rfl)) | (show DrD _ _ _ (_ :: _) _ _ _ _; first | refine D_con ?_ ?_ | refine D_eff tok ?_ ?_) | (show Ev _ _ _ _; first | refine Ev_seq ?_ | refine W_reg ?_ | refine Ev_block ?_ | refine W_ifY ?_ | refine Ev_skip ?_) | (show EvD _ _ [] _ _ _; refine W_nil ?_) | (show EvD _ _ (_ :: _) _ _ _; first | refine W_run tok ?_ ?_ (by simp (maxSteps := 1000000) (disch := omega) only [go_sem, wrap_i64_id, hg, hml]; with_reducible exact rfl)) | refine Q_thenN ?_ | refine Q_blkN ?_ | fail)
   all_goals (try exact sd)
   all_goals (try refine F_done ?_)
   refine Q_rndC (Rb := σ.rows) (A := σ.boxes) (Mb := σ.maps) (R := ((fun i => [some ⟨pairsD ((A.take i).map tp9), 39, 2⟩]) (i))) (R' := ((fun i => [some ⟨pairsD ((A.take i).map tp9), 39, 2⟩]) (i + 1))) (B := []) (B' := []) (M := []) (M' := []) ?_ (by omega) (by first | rfl | simp only [List.append_nil]) (by first | rfl | simp only [List.append_nil]) (by first | ((try simp only [List.append_nil, List.cons_append, List.nil_append, List.append_assoc, ht, pairsD_snoc9]) <;> exact rfl) | exact (List.append_nil _).symm) (by first | ((try simp only [List.append_nil, List.cons_append, List.nil_append, List.append_assoc, ht, pairsD_snoc9]) <;> exact rfl) | exact (List.append_nil _).symm) (by first | ((try simp only [List.append_nil, List.cons_append, List.nil_append, List.append_assoc, ht, pairsD_snoc9]) <;> exact rfl) | exact (List.append_nil _).symm) (by simp) (by simp) (by simp) (by simp [nameds, DV.named, bytes_named, nameds_append, pairsD_named] <;> omega) (by repeat (first | exact allN_nil _ | refine allN_none ?_ | refine allN_some (by first | exact bytes_named _ _ _ _ | (simp [nameds, DV.named, bytes_named, nameds_append, pairsD_named] <;> omega)) ?_)) (by repeat (first | exact allN_nil _ | refine allN_none ?_ | refine allN_some (by first | exact bytes_named _ _ _ _ | (simp [nameds, DV.named, bytes_named, nameds_append, pairsD_named] <;> omega)) ?_)) (by simp)
   repeat (first | exact LeL.nil | refine LeL.cons2 ?_ (Le.undef _) | refine LeL.cons2 ?_ (Le.refl _) | refine LeL.cons2 ?_ (Le.sl _) | refine LeL.cons2 ?_ (Le.eq (by first | rfl | exact congrArg _ (by omega))) | refine LeL.cons2 ?_ (Le.eq ?_))
  ·obtain rfl : i = A.length := by omega
   rw [List.take_length] at hml ⊢
   repeat' (first | (show Ev _ _ _ _; first | refine Ev_seq ?_ | refine W_reg ?_ | refine W_ifN ?_ | refine Ev_exit ?_ | refine Ev_ret ?_) | (show EvD _ _ [] _ _ _; refine W_nil ?_) | (show EvD _ _ (_ :: _) _ _ _; first | refine W_run tok ?_ ?_ (by simp (maxSteps := 1000000) (disch := omega) only [go_sem, wrap_i64_id, hml]; with_reducible exact rfl)) | (show RetQ _ _ (RP _ _) _ _; refine R_ret ?_ ?_) | (show FrzTo _ _ _ _; refine F_row ?_) | refine Q_thenN ?_ | refine Q_thenE ?_ | refine Q_blkE ?_ | refine Q_rndE ?_ | fail)
   all_goals (try exact sd)
   all_goals (try refine F_done ?_)
   all_goals first | rfl | (simp; done) | trace_state
instance i_bursarlaw09_few (P : List PairB) : Con Try.prog 12 [.sl (pairsD P)] (P.length ≤ 140737488355328 ∧ lenP9 P) (.sl (pairsD ((P.take 120).map tp9))) := ⟨c_bursarlaw09_few P ⟩
end Go.Val.Ytgjmpefhjdgkoaa
