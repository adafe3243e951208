/- Chapter 08: which nodes may be, and the document's answer, walked. -/
import Derived.Test.YtgjmpefhjdgkoaaN08a
namespace Go.Val.Ytgjmpefhjdgkoaa
open Go Go.Val Go.Proofs Go.Proofs.Ytgjmpefhjdgkoaa
attribute [local irreducible] Ev EvD EvC thenQ blockQ RoundG RetQ
set_option maxRecDepth 100000
set_option maxHeartbeats 4000000
set_option linter.unusedSimpArgs false
set_option linter.unusedVariables false
def firstN (n : Nat) (p : Nat → Bool) : Nat := (List.range n).findIdx p
theorem firstN_le (n : Nat) (p : Nat → Bool) : firstN n p ≤ n := by have := List.findIdx_le_length (xs := List.range n) (p := p); simpa [firstN] using this
theorem firstN_lt {n : Nat} {p : Nat → Bool} {i : Nat} (h : i < firstN n p) : p i = false := by
 have := List.not_of_lt_findIdx h
 simpa using this
theorem firstN_eq {n : Nat} {p : Nat → Bool} (h : firstN n p < n) : p (firstN n p) = true := by
 have h' : (List.range n).findIdx p < (List.range n).length := by simpa [firstN] using h
 have := List.findIdx_getElem (w := h')
 simpa [firstN] using this
def allN (n : Nat) (p : Nat → Bool) : Bool := (List.range n).all p
theorem allN_iff {n : Nat} {p : Nat → Bool} : allN n p = true ↔ ∀ i, i < n → p i = true := by simp [allN]
theorem firstBad (n : Nat) (p : Nat → Bool) : ∃ m, m ≤ n ∧ (∀ i, i < m → p i = true) ∧ (m < n → p m = false) ∧ allN n p = decide (m = n) := by
 refine ⟨firstN n (fun i => !p i), firstN_le _ _, fun i hi => by simpa using firstN_lt hi, fun h => by simpa using firstN_eq h, ?_⟩
 rw [Bool.eq_iff_iff, allN_iff, decide_eq_true_eq]
 constructor
 ·intro h
  by_cases hl : firstN n (fun i => !p i) < n
  ·have := firstN_eq hl
   rw [h _ hl] at this; simp at this
  ·have := firstN_le n (fun i => !p i); omega
 ·intro h i hi
  have := firstN_lt (p := fun i => !p i) (i := i) (by omega : i < firstN n (fun i => !p i))
  simpa using this
def lessAt (K : List (List UInt8)) (i : Nat) : Bool := Op.bytesLess (K.getD i []) (K.getD (i + 1) [])
def risB (K : List (List UInt8)) : Bool := allN (K.length - 1) (lessAt K)
theorem strsD_get' {K : List (List UInt8)} {i : Nat} (h : i < K.length) {k : List UInt8} (hk : K.getD i [] = k) : (strsD K).getD i .undef = .str k := by rw [strsD_get h, hk]
theorem c_node_rising (K : List (List UInt8)) (hC : K.length < 1099511627776) : Pure Try.prog n_node_rising [.sl (strsD K)] (.bool (risB K)) := by
 refine Pure.go tok (rs := [.tmp 2]) [.sl (strsD K), .undef, .undef, .undef, .undef, .undef, .undef, .undef, .undef, .undef, .undef, .undef, .undef, .undef, .undef, .undef, .undef, .undef, .undef, .undef] Try.func54 (fun σ => ?_)
 have hsl := strsD_len K
 obtain ⟨m, hm, hgood, hbad, hall⟩ := firstBad (K.length - 1) (lessAt K)
 unfold risB
 rw [hall]
 repeat' (first | (show Ev _ _ _ _; first | refine Ev_seq ?_ | refine W_reg ?_ | refine Ev_block ?_) | (show EvD _ _ [] _ _ _; refine W_nil ?_) | (show EvD _ _ (_ :: _) _ _ _; first | refine W_run tok ?_ ?_ (by simp (maxSteps := 1000000) (disch := omega) only [go_sem, wrap_i64_id]; with_reducible exact rfl)) | refine Q_thenN ?_ | fail)
 all_goals (try exact sd)
 all_goals (try refine F_done ?_)
 refine Ev_lp (m) (fun i => [(3, i64 (i + 1))]) (fun i => σ) [2, 4, 5, 6, 7, 8, 9, 10, 11, 12, 13, 14, 15, 16, 17, 18, 19] ?_ (by first | rfl | (simp only [List.take_zero, List.append_nil]; done)) (fun i hi => ?_)
 ·exact le1
 by_cases hi' : i < m
 ·have hd := hgood i hi'
  unfold lessAt at hd
  have g1 := strsD_get (K := K) (i := i) (by omega)
  have g2 := strsD_get (K := K) (i := i + 1) (by omega)
  have e1 : ((i + 1 : Nat) : Int) - 1 = (i : Int) := by omega
  repeat' (first | (show Ev _ (.region _ _ true) _ _; refine D_start [50, 51, 82] mix ?_) | (show DrD _ _ _ [] _ _ _ _; refine D_nil ?_; try dsimp only) | (show DrD _ (EB _ _) _ (_ :: _) _ _ _ _; first | refine D_runL tok ?_ ?_ (h := by intro R; simp (maxSteps := 1000000) (disch := omega) only [go_sem, wrap_i64_id, e1, g1, g2, hd]; with_reducible exact rfl)) | (show Ev _ _ _ _; first | refine Ev_seq ?_ | refine W_reg ?_ | refine Ev_block ?_ | refine W_ifF ?_ | refine W_ifY ?_ | refine Ev_skip ?_) | (show EvD _ _ [] _ _ _; refine W_nil ?_) | (show EvD _ _ (_ :: _) _ _ _; first | refine W_run tok ?_ ?_ (by simp (maxSteps := 1000000) (disch := omega) only [go_sem, wrap_i64_id, e1, g1, g2, hd]; with_reducible exact rfl)) | refine Q_thenN ?_ | refine Q_blkN ?_ | fail)
  all_goals (try exact sd)
  all_goals (try refine F_done ?_)
  refine Q_rndN ?_ (by omega) ?_
  rotate_left
  ·rfl
  repeat (first | exact LeL.nil | refine LeL.cons2 ?_ (Le.undef _) | refine LeL.cons2 ?_ (Le.refl _) | refine LeL.cons2 ?_ (Le.sl _) | refine LeL.cons2 ?_ (Le.eq (by first | rfl | exact congrArg _ (by omega))) | refine LeL.cons2 ?_ (Le.eq ?_))
 ·obtain rfl : i = m := by omega
  by_cases hl : i < K.length - 1
  ·have hd := hbad hl
   unfold lessAt at hd
   have g1 := strsD_get (K := K) (i := i) (by omega)
   have g2 := strsD_get (K := K) (i := i + 1) (by omega)
   have e1 : ((i + 1 : Nat) : Int) - 1 = (i : Int) := by omega
   have hne : decide (i = K.length - 1) = false := decide_eq_false (by omega)
   rw [hne]
   repeat' (first | (show Ev _ (.region _ _ true) _ _; refine D_start [50, 51, 82] mix ?_) | (show DrD _ _ _ [] _ _ _ _; refine D_nil ?_; try dsimp only) | (show DrD _ (EB _ _) _ (_ :: _) _ _ _ _; first | refine D_runL tok ?_ ?_ (h := by intro R; simp (maxSteps := 1000000) (disch := omega) only [go_sem, wrap_i64_id, e1, g1, g2, hd]; with_reducible exact rfl)) | (show Ev _ _ _ _; first | refine Ev_seq ?_ | refine W_reg ?_ | refine Ev_block ?_ | refine W_ifT ?_ | refine W_ifY ?_ | refine Ev_skip ?_ | refine Ev_ret ?_) | (show EvD _ _ [] _ _ _; refine W_nil ?_) | (show EvD _ _ (_ :: _) _ _ _; first | refine W_run tok ?_ ?_ (by simp (maxSteps := 1000000) (disch := omega) only [go_sem, wrap_i64_id, e1, g1, g2, hd]; with_reducible exact rfl)) | (show RetQ _ _ (RP _ _) _ _; refine R_ret ?_ ?_) | refine Q_thenN ?_ | refine Q_thenR ?_ | refine Q_blkR ?_ | refine Q_rndR ?_ | fail)
   all_goals (try exact sd)
   all_goals (try refine F_done ?_)
   all_goals rfl
  ·have hne : decide (i = K.length - 1) = true := decide_eq_true (by omega)
   rw [hne]
   repeat' (first | (show Ev _ _ _ _; first | refine Ev_seq ?_ | refine W_reg ?_ | refine W_ifN ?_ | refine Ev_exit ?_ | refine Ev_ret ?_) | (show EvD _ _ [] _ _ _; refine W_nil ?_) | (show EvD _ _ (_ :: _) _ _ _; first | refine W_run tok ?_ ?_ (by simp (maxSteps := 1000000) (disch := omega) only [go_sem, wrap_i64_id]; with_reducible exact rfl)) | (show RetQ _ _ (RP _ _) _ _; refine R_ret ?_ ?_) | refine Q_thenN ?_ | refine Q_thenE ?_ | refine Q_blkE ?_ | refine Q_rndE ?_ | fail)
   all_goals (try exact sd)
   all_goals (try refine F_done ?_)
   all_goals rfl
instance i_node_rising (K : List (List UInt8)) : Con Try.prog 54 [.sl (strsD K)] (K.length < 1099511627776) (.bool (risB K)) := ⟨c_node_rising K ⟩
def keysOf (P : List PairB) : List (List UInt8) := P.map (·.1)
theorem keysOf_len (P : List PairB) : (keysOf P).length = P.length := by simp [keysOf]
theorem keysOf_take {P : List PairB} {i : Nat} (h : i < P.length) : keysOf (P.take (i + 1)) = keysOf (P.take i) ++ [(P.getD i ([], [])).1] := by
 rw [keysOf, keysOf, List.take_add_one, List.getElem?_eq_getElem h, List.map_append, List.getD_eq_getElem?_getD, List.getElem?_eq_getElem h]
 rfl
theorem strsD_snoc (K : List (List UInt8)) (k : List UInt8) : strsD K ++ [.str k] = strsD (K ++ [k]) := by simp [strsD]
theorem pget {P : List PairB} {i : Nat} (h : i < P.length) : ∃ k v, P.getD i ([], []) = (k, v) ∧ (pairsD P).getD i .undef = .agg [.str k, .str v] := ⟨_, _, rfl, pairsD_get h⟩
theorem c_node_keys (P : List PairB) (hC : P.length < 1099511627776) : Pure Try.prog n_node_keys [.sl (pairsD P)] (.sl (strsD (keysOf P))) := by
 refine Pure.go tok (rs := [.tmp 2]) [.sl (pairsD P), .undef, .undef, .undef, .undef, .undef, .undef, .undef, .undef, .undef, .undef, .undef, .undef, .undef, .undef, .undef, .undef, .undef, .undef] Try.func55 (fun σ => ?_)
 have hsl := pairsD_len P
 repeat' (first | (show Ev _ _ _ _; first | refine Ev_seq ?_ | refine W_reg ?_ | refine Ev_block ?_) | (show EvD _ _ [] _ _ _; refine W_nil ?_) | (show EvD _ _ (_ :: _) _ _ _; refine W_run tok ?_ ?_) | refine Q_thenN ?_ | fail)
 all_goals (try exact sd)
 all_goals (try refine F_done ?_)
 refine Ev_seed 3 9 1 rfl (by decide) (by simp only [List.set_cons_succ, List.set_cons_zero]; exact rfl) ?_
 refine Ev_lp (P.length) (fun i => [(3, .row σ.rows.length i), (8, i64 i)]) (fun i => ⟨σ.rows ++ [some ⟨strsD (keysOf (P.take i)), 9, 1⟩], σ.boxes, σ.maps⟩) [5, 9, 10, 11, 12, 13, 14, 15, 16, 17] ?_ (by first | rfl | (simp only [List.take_zero, List.append_nil]; done)) (fun i hi => ?_)
 ·exact le1
 by_cases hi' : i < P.length
 ·obtain ⟨k, v, hk, hg⟩ := pget hi'
  have hl : (keysOf (P.take i)).length = i := by rw [keysOf_len, List.length_take]; omega
  have ht := keysOf_take hi'
  rw [hk] at ht
  repeat' (first | (show Ev _ _ _ _; first | refine Ev_seq ?_ | refine W_reg ?_ | refine Ev_block ?_ | refine W_ifY ?_ | refine Ev_skip ?_) | (show EvD _ _ [] _ _ _; refine W_nil ?_) | (show EvD _ _ (_ :: _) _ _ _; first | refine W_run tok ?_ ?_ (by simp (maxSteps := 1000000) (disch := omega) only [go_sem, wrap_i64_id, hg, hl, strsD_snoc]; with_reducible exact rfl)) | refine Q_thenN ?_ | refine Q_blkN ?_ | fail)
  all_goals (try exact sd)
  all_goals (try refine F_done ?_)
  refine Q_rndC (Rb := σ.rows) (A := σ.boxes) (Mb := σ.maps) (R := ((fun i => [some ⟨strsD (keysOf (P.take i)), 9, 1⟩]) (i))) (R' := ((fun i => [some ⟨strsD (keysOf (P.take i)), 9, 1⟩]) (i + 1))) (B := []) (B' := []) (M := []) (M' := []) ?_ (by omega) (by first | rfl | simp only [List.append_nil]) (by first | rfl | simp only [List.append_nil]) (by first | ((try simp only [List.append_nil, List.cons_append, List.nil_append, List.append_assoc, ht]) <;> exact rfl) | exact (List.append_nil _).symm) (by first | ((try simp only [List.append_nil, List.cons_append, List.nil_append, List.append_assoc, ht]) <;> exact rfl) | exact (List.append_nil _).symm) (by first | ((try simp only [List.append_nil, List.cons_append, List.nil_append, List.append_assoc, ht]) <;> exact rfl) | exact (List.append_nil _).symm) (by simp) (by simp) (by simp) (by simp [nameds, DV.named, bytes_named, nameds_append, strsD_named, pairsD_named] <;> omega) (by repeat (first | exact allN_nil _ | refine allN_none ?_ | refine allN_some (by first | exact bytes_named _ _ _ _ | (simp [nameds, DV.named, bytes_named, nameds_append, strsD_named, pairsD_named] <;> omega)) ?_)) (by repeat (first | exact allN_nil _ | refine allN_none ?_ | refine allN_some (by first | exact bytes_named _ _ _ _ | (simp [nameds, DV.named, bytes_named, nameds_append, strsD_named, pairsD_named] <;> omega)) ?_)) (by simp)
  repeat (first | exact LeL.nil | refine LeL.cons2 ?_ (Le.undef _) | refine LeL.cons2 ?_ (Le.refl _) | refine LeL.cons2 ?_ (Le.sl _) | refine LeL.cons2 ?_ (Le.eq (by first | rfl | exact congrArg _ (by omega))) | refine LeL.cons2 ?_ (Le.eq ?_))
 ·obtain rfl : i = P.length := by omega
  have hl : (keysOf (P.take P.length)).length = P.length := by rw [keysOf_len, List.length_take]; omega
  repeat' (first | (show Ev _ _ _ _; first | refine Ev_seq ?_ | refine W_reg ?_ | refine W_ifN ?_ | refine Ev_exit ?_ | refine Ev_ret ?_) | (show EvD _ _ [] _ _ _; refine W_nil ?_) | (show EvD _ _ (_ :: _) _ _ _; first | refine W_run tok ?_ ?_ (by simp (maxSteps := 1000000) (disch := omega) only [go_sem, wrap_i64_id, hl]; with_reducible exact rfl)) | (show RetQ _ _ (RP _ _) _ _; refine R_ret ?_ ?_) | (show FrzTo _ _ _ _; refine F_row ?_) | refine Q_thenN ?_ | refine Q_thenE ?_ | refine Q_blkE ?_ | refine Q_rndE ?_ | fail)
  all_goals (try exact sd)
  all_goals (try refine F_done ?_)
  all_goals rw [List.take_length]
instance i_node_keys (P : List PairB) : Con Try.prog 55 [.sl (pairsD P)] (P.length < 1099511627776) (.sl (strsD (keysOf P))) := ⟨c_node_keys P ⟩
def badP : DV → Bool
 | .agg [.str k, .str v] => !decide (keyP k) || !decide (valP v)
 | _ => false
def badK : DV → Bool
 | .str k => !decide (keyP k)
 | _ => false
theorem c_node_May_1 (k v : List UInt8) (hC : True) : Pure Try.prog n_node_May_1 [.agg [.str k, .str v]] (.bool (!decide (keyP k) || !decide (valP v))) := by
 refine Pure.go tok (rs := [.tmp 2]) [.agg [.str k, .str v], .undef, .undef, .undef, .undef, .undef, .undef, .undef, .undef, .undef, .undef, .undef, .undef] Try.func52 (fun σ => ?_)
 by_cases h : decide (keyP k) = true
 ·repeat' (first | (show Ev _ _ _ _; first | refine Ev_seq ?_ | refine W_reg ?_ | refine Ev_ret ?_) | (show EvD _ _ [] _ _ _; refine W_nil ?_) | (show EvD _ _ (_ :: _) _ _ _; first | refine W_run tok ?_ ?_ (by simp (maxSteps := 1000000) (disch := omega) only [go_sem, h]; with_reducible exact rfl) | refine W_callee ?_) | (show EvC _ _ _ _ _ _ _ _ _; refine W_con ?_ ?_) | (show RetQ _ _ (RP _ _) _ _; refine R_ret ?_ ?_) | refine Q_thenN ?_ | fail)
  all_goals (try exact sd)
  all_goals (try refine F_done ?_)
  all_goals (simp [h])
 ·rw [Bool.not_eq_true] at h
  repeat' (first | (show Ev _ _ _ _; first | refine Ev_seq ?_ | refine W_reg ?_ | refine Ev_ret ?_) | (show EvD _ _ [] _ _ _; refine W_nil ?_) | (show EvD _ _ (_ :: _) _ _ _; first | refine W_run tok ?_ ?_ (by simp (maxSteps := 1000000) (disch := omega) only [go_sem, h]; with_reducible exact rfl) | refine W_callee ?_) | (show EvC _ _ _ _ _ _ _ _ _; refine W_con ?_ ?_) | (show RetQ _ _ (RP _ _) _ _; refine R_ret ?_ ?_) | refine Q_thenN ?_ | fail)
  all_goals (try exact sd)
  all_goals (try refine F_done ?_)
  all_goals (simp [h])
instance i_node_May_1 (k v : List UInt8) : Con Try.prog 52 [.agg [.str k, .str v]] (True) (.bool (!decide (keyP k) || !decide (valP v))) := ⟨c_node_May_1 k v ⟩
instance p_May_1 : PredC Try.prog 52 [] [] (fun x => ∃ k v, x = .agg [.str k, .str v]) badP :=
 .of at_node_May_1 (by rintro x ⟨k, v, rfl⟩; exact c_node_May_1 k v trivial)
theorem c_node_May_3 (k : List UInt8) (hC : True) : Pure Try.prog n_node_May_3 [.str k] (.bool (!decide (keyP k))) := by
 refine Pure.go tok (rs := [.tmp 2]) [.str k, .undef, .undef, .undef, .undef, .undef] Try.func59 (fun σ => ?_)
 repeat' (first | (show Ev _ _ _ _; first | refine Ev_seq ?_ | refine W_reg ?_ | refine Ev_ret ?_) | (show EvD _ _ [] _ _ _; refine W_nil ?_) | (show EvD _ _ (_ :: _) _ _ _; first | refine W_run tok ?_ ?_ | refine W_callee ?_) | (show EvC _ _ _ _ _ _ _ _ _; refine W_con ?_ ?_) | (show RetQ _ _ (RP _ _) _ _; refine R_ret ?_ ?_) | refine Q_thenN ?_ | fail)
 all_goals (try exact sd)
 all_goals (try refine F_done ?_)
 all_goals rfl
instance i_node_May_3 (k : List UInt8) : Con Try.prog 59 [.str k] (True) (.bool (!decide (keyP k))) := ⟨c_node_May_3 k ⟩
instance p_May_3 : PredC Try.prog 59 [] [] (fun x => ∃ k, x = .str k) badK :=
 .of at_node_May_3 (by rintro x ⟨k, rfl⟩; exact c_node_May_3 k trivial)
end Go.Val.Ytgjmpefhjdgkoaa
