/- Chapter 09: ranges of a tree's pairs, the document's and the program's, walked. -/
import Derived.Test.YtgjmpefhjdgkoaaN09s
namespace Go.Val.Ytgjmpefhjdgkoaa
open Go Go.Val Go.Proofs Go.Proofs.Ytgjmpefhjdgkoaa
attribute [local irreducible] Ev EvD EvC thenQ blockQ RoundG RetQ
set_option maxRecDepth 100000
set_option maxHeartbeats 4000000
set_option linter.unusedSimpArgs false
set_option linter.unusedVariables false
def inR (f t : List UInt8) (p : PairB) : Bool := !Op.bytesLess p.1 f && (decide (t = []) || Op.bytesLess p.1 t)
def rngP (P : List PairB) (f t : List UInt8) : List PairB := P.filter (inR f t)
theorem rngP_le (P : List PairB) (f t : List UInt8) (i : Nat) : (rngP (P.take i) f t).length ≤ P.length := Nat.le_trans (List.length_filter_le _ _) (by rw [List.length_take]; omega)
theorem rngP_snoc {P : List PairB} {f t : List UInt8} {i : Nat} (h : i < P.length) {p : PairB} (e : P.getD i ([], []) = p) : rngP (P.take (i + 1)) f t = if inR f t p = true then rngP (P.take i) f t ++ [p] else rngP (P.take i) f t := by
 rw [List.getD_eq_getElem?_getD, List.getElem?_eq_getElem h] at e
 simp only [Option.getD_some] at e
 rw [List.take_add_one, List.getElem?_eq_getElem h, e]
 simp only [rngP, Option.toList_some, List.filter_append, List.filter_cons, List.filter_nil]
 split <;> simp
theorem rngP_append (A B : List PairB) (f t : List UInt8) : rngP (A ++ B) f t = rngP A f t ++ rngP B f t := by simp [rngP]
theorem pairs_one (A : List PairB) (k v : List UInt8) : pairsD A ++ [.agg [.str k, .str v]] = pairsD (A ++ [(k, v)]) := by simp [pairsD, pairD]
@[simp] theorem rngP_nil (f t : List UInt8) : rngP [] f t = [] := rfl
theorem c_bursarref09_Range (N : List NodeB) (f t : List UInt8) (hC : sizeT N) : Pure Try.prog n_bursarref09_Range [.sl (nodesD N), .str f, .str t] (.sl (pairsD (rngP (pairsOf N) f t))) := by
 refine Pure.go tok (rs := [.tmp 6]) [.sl (nodesD N), .str f, .str t, .undef, .undef, .undef, .undef, .undef, .undef, .undef, .undef, .undef, .undef, .undef, .undef, .undef, .undef, .undef, .undef, .undef, .undef, .undef, .undef, .undef, .undef, .undef, .undef, .undef, .undef, .undef, .undef, .undef, .undef, .undef, .undef, .undef, .undef, .undef, .undef, .undef, .undef, .undef, .undef, .undef, .undef, .undef] Try.func43 (fun σ => ?_)
 have iQ : Con Try.prog 71 [.sl (nodesD N)] True (.sl (pairsD (pairsOf N))) := ⟨fun _ => c_bursarref09_Pairs N hC⟩
 have h3 := hC.2.2
 clear hC
 generalize pairsOf N = P at *
 have hsP := pairsD_len P
 repeat' (first | (show Ev _ _ _ _; first | refine Ev_seq ?_ | refine W_reg ?_ | refine Ev_block ?_) | (show EvD _ _ [] _ _ _; refine W_nil ?_) | (show EvD _ _ (_ :: _) _ _ _; first | refine W_run tok ?_ ?_ (by simp (maxSteps := 1000000) (disch := omega) only [go_sem, wrap_i64_id]; with_reducible exact rfl) | refine W_callee ?_) | (show EvC _ _ _ _ _ _ _ _ _; refine W_con ?_ ?_) | refine Q_thenN ?_ | fail)
 all_goals (try exact sd)
 all_goals (try refine F_done ?_)
 refine Ev_seed 7 39 2 rfl (by decide) (by simp only [List.set_cons_succ, List.set_cons_zero]; exact rfl) ?_
 refine Ev_lp (P.length) (fun i => [(7, .row σ.rows.length (rngP (P.take i) f t).length), (9, i64 i)]) (fun i => ⟨σ.rows ++ [some ⟨pairsD (rngP (P.take i) f t), 39, 2⟩], σ.boxes, σ.maps⟩) [12, 13, 14, 15, 16, 17, 18, 19, 20, 21, 22, 23, 24, 25, 26, 27, 28, 29, 30, 31, 32, 33, 34, 35, 36, 37, 38, 39, 40, 41, 42, 43, 44] ?_ (by simp [rngP, pairsD]) (fun i hi => ?_)
 ·exact le1
 have hle := rngP_le P f t i
 have hpl := pairsD_len (rngP (P.take i) f t)
 by_cases hi' : i < P.length
 ·obtain ⟨k, v, hk, g1⟩ := pget (P := P) (i := i) hi'
  have hsn := rngP_snoc (f := f) (t := t) hi' hk
  have hle2 := rngP_le P f t (i + 1)
  have hpl2 := pairsD_len (rngP (P.take (i + 1)) f t)
  by_cases b1 : Op.bytesLess k f = true
  ·have e : inR f t (k, v) = false := by simp [inR, b1]
   rw [e, if_neg (by simp)] at hsn
   repeat' (first | (show Ev _ _ _ _; first | refine Ev_seq ?_ | refine W_reg ?_ | refine Ev_block ?_ | refine W_ifT ?_ | refine W_ifY ?_ | refine Ev_skip ?_ | refine Ev_exit ?_) | (show EvD _ _ [] _ _ _; refine W_nil ?_) | (show EvD _ _ (_ :: _) _ _ _; first | refine W_run tok ?_ ?_ (by simp (maxSteps := 1000000) (disch := omega) only [go_sem, wrap_i64_id, g1, b1]; with_reducible exact rfl)) | refine Q_thenN ?_ | refine Q_thenE ?_ | refine Q_blkE ?_ | fail)
   all_goals (try exact sd)
   all_goals (try refine F_done ?_)
   refine Q_rndC (Rb := σ.rows) (A := σ.boxes) (Mb := σ.maps) (R := ((fun i => [some ⟨pairsD (rngP (P.take i) f t), 39, 2⟩]) (i))) (R' := ((fun i => [some ⟨pairsD (rngP (P.take i) f t), 39, 2⟩]) (i + 1))) (B := []) (B' := []) (M := []) (M' := []) ?_ (by omega) (by first | rfl | simp only [List.append_nil]) (by first | rfl | simp only [List.append_nil]) (by first | ((try simp only [List.append_nil, List.cons_append, List.nil_append, List.append_assoc, hsn]) <;> exact rfl) | exact (List.append_nil _).symm) (by first | ((try simp only [List.append_nil, List.cons_append, List.nil_append, List.append_assoc, hsn]) <;> exact rfl) | exact (List.append_nil _).symm) (by first | ((try simp only [List.append_nil, List.cons_append, List.nil_append, List.append_assoc, hsn]) <;> exact rfl) | exact (List.append_nil _).symm) (by simp) (by simp) (by simp) (by simp [nameds, DV.named, bytes_named, nameds_append, pairsD_named, strsD_named, kidsD_named, nodesD_named] <;> omega) (by repeat (first | exact allN_nil _ | refine allN_none ?_ | refine allN_some (by first | exact bytes_named _ _ _ _ | (simp [nameds, DV.named, bytes_named, nameds_append, pairsD_named, strsD_named, kidsD_named, nodesD_named] <;> omega)) ?_)) (by repeat (first | exact allN_nil _ | refine allN_none ?_ | refine allN_some (by first | exact bytes_named _ _ _ _ | (simp [nameds, DV.named, bytes_named, nameds_append, pairsD_named, strsD_named, kidsD_named, nodesD_named] <;> omega)) ?_)) (by simp)
   repeat (first | exact LeL.nil | refine LeL.cons2 ?_ (Le.undef _) | refine LeL.cons2 ?_ (Le.refl _) | refine LeL.cons2 ?_ (Le.sl _) | refine LeL.cons2 ?_ (Le.eq (by first | rfl | exact congrArg _ (by omega))) | refine LeL.cons2 ?_ (Le.eq ?_))
   all_goals first | (rw [hsn]; done) | (rw [hsn, List.length_append]; done) | trace_state
  ·rw [Bool.not_eq_true] at b1
   by_cases b2 : t = []
   ·have d2 : decide (t = []) = true := decide_eq_true b2
    have e : inR f t (k, v) = true := by simp [inR, b1, b2]
    rw [e, if_pos rfl] at hsn
    have hs2 := pairs_one (rngP (P.take i) f t) k v
    rw [← hsn] at hs2
    have hln : (rngP (P.take i) f t).length + 1 = (rngP (P.take (i + 1)) f t).length := by rw [hsn]; simp
    repeat' (first | (show Ev _ _ _ _; first | refine Ev_seq ?_ | refine W_reg ?_ | refine Ev_block ?_ | refine W_ifF ?_ | refine W_ifY ?_ | refine Ev_skip ?_) | (show EvD _ _ [] _ _ _; refine W_nil ?_) | (show EvD _ _ (_ :: _) _ _ _; first | refine W_run tok ?_ ?_ (by simp (maxSteps := 1000000) (disch := omega) only [go_sem, wrap_i64_id, g1, b1, d2]; with_reducible exact rfl)) | refine Q_thenN ?_ | refine Q_blkN ?_ | fail)
    all_goals (try exact sd)
    all_goals (try refine F_done ?_)
    ·refine Q_rndC (Rb := σ.rows) (A := σ.boxes) (Mb := σ.maps) (R := ((fun i => [some ⟨pairsD (rngP (P.take i) f t), 39, 2⟩]) (i))) (R' := ((fun i => [some ⟨pairsD (rngP (P.take i) f t), 39, 2⟩]) (i + 1))) (B := []) (B' := []) (M := []) (M' := []) ?_ (by omega) (by first | rfl | simp only [List.append_nil]) (by first | rfl | simp only [List.append_nil]) (by first | ((try simp only [List.append_nil, List.cons_append, List.nil_append, List.append_assoc, hs2]) <;> exact rfl) | exact (List.append_nil _).symm) (by first | ((try simp only [List.append_nil, List.cons_append, List.nil_append, List.append_assoc, hs2]) <;> exact rfl) | exact (List.append_nil _).symm) (by first | ((try simp only [List.append_nil, List.cons_append, List.nil_append, List.append_assoc, hs2]) <;> exact rfl) | exact (List.append_nil _).symm) (by simp) (by simp) (by simp) (by simp [nameds, DV.named, bytes_named, nameds_append, pairsD_named, strsD_named, kidsD_named, nodesD_named] <;> omega) (by repeat (first | exact allN_nil _ | refine allN_none ?_ | refine allN_some (by first | exact bytes_named _ _ _ _ | (simp [nameds, DV.named, bytes_named, nameds_append, pairsD_named, strsD_named, kidsD_named, nodesD_named] <;> omega)) ?_)) (by repeat (first | exact allN_nil _ | refine allN_none ?_ | refine allN_some (by first | exact bytes_named _ _ _ _ | (simp [nameds, DV.named, bytes_named, nameds_append, pairsD_named, strsD_named, kidsD_named, nodesD_named] <;> omega)) ?_)) (by simp)
     repeat (first | exact LeL.nil | refine LeL.cons2 ?_ (Le.undef _) | refine LeL.cons2 ?_ (Le.refl _) | refine LeL.cons2 ?_ (Le.sl _) | refine LeL.cons2 ?_ (Le.eq (by first | rfl | exact congrArg _ (by omega))) | refine LeL.cons2 ?_ (Le.eq ?_))
    all_goals trace_state
   ·have d2 : decide (t = []) = false := decide_eq_false b2
    by_cases b3 : Op.bytesLess k t = true
    ·have e : inR f t (k, v) = true := by simp [inR, b1, b3]
     rw [e, if_pos rfl] at hsn
     have hs2 := pairs_one (rngP (P.take i) f t) k v
     rw [← hsn] at hs2
     have hln : (rngP (P.take i) f t).length + 1 = (rngP (P.take (i + 1)) f t).length := by rw [hsn]; simp
     repeat' (first | (show Ev _ _ _ _; first | refine Ev_seq ?_ | refine W_reg ?_ | refine Ev_block ?_ | refine W_ifF ?_ | refine W_ifY ?_ | refine Ev_skip ?_) | (show EvD _ _ [] _ _ _; refine W_nil ?_) | (show EvD _ _ (_ :: _) _ _ _; first | refine W_run tok ?_ ?_ (by simp (maxSteps := 1000000) (disch := omega) only [go_sem, wrap_i64_id, g1, b1, d2, b3]; with_reducible exact rfl)) | refine Q_thenN ?_ | refine Q_blkN ?_ | fail)
     all_goals (try exact sd)
     all_goals (try refine F_done ?_)
     ·refine Q_rndC (Rb := σ.rows) (A := σ.boxes) (Mb := σ.maps) (R := ((fun i => [some ⟨pairsD (rngP (P.take i) f t), 39, 2⟩]) (i))) (R' := ((fun i => [some ⟨pairsD (rngP (P.take i) f t), 39, 2⟩]) (i + 1))) (B := []) (B' := []) (M := []) (M' := []) ?_ (by omega) (by first | rfl | simp only [List.append_nil]) (by first | rfl | simp only [List.append_nil]) (by first | ((try simp only [List.append_nil, List.cons_append, List.nil_append, List.append_assoc, hs2]) <;> exact rfl) | exact (List.append_nil _).symm) (by first | ((try simp only [List.append_nil, List.cons_append, List.nil_append, List.append_assoc, hs2]) <;> exact rfl) | exact (List.append_nil _).symm) (by first | ((try simp only [List.append_nil, List.cons_append, List.nil_append, List.append_assoc, hs2]) <;> exact rfl) | exact (List.append_nil _).symm) (by simp) (by simp) (by simp) (by simp [nameds, DV.named, bytes_named, nameds_append, pairsD_named, strsD_named, kidsD_named, nodesD_named] <;> omega) (by repeat (first | exact allN_nil _ | refine allN_none ?_ | refine allN_some (by first | exact bytes_named _ _ _ _ | (simp [nameds, DV.named, bytes_named, nameds_append, pairsD_named, strsD_named, kidsD_named, nodesD_named] <;> omega)) ?_)) (by repeat (first | exact allN_nil _ | refine allN_none ?_ | refine allN_some (by first | exact bytes_named _ _ _ _ | (simp [nameds, DV.named, bytes_named, nameds_append, pairsD_named, strsD_named, kidsD_named, nodesD_named] <;> omega)) ?_)) (by simp)
      repeat (first | exact LeL.nil | refine LeL.cons2 ?_ (Le.undef _) | refine LeL.cons2 ?_ (Le.refl _) | refine LeL.cons2 ?_ (Le.sl _) | refine LeL.cons2 ?_ (Le.eq (by first | rfl | exact congrArg _ (by omega))) | refine LeL.cons2 ?_ (Le.eq ?_))
     all_goals trace_state
    ·rw [Bool.not_eq_true] at b3
     have e : inR f t (k, v) = false := by simp [inR, b2, b3]
     rw [e, if_neg (by simp)] at hsn
     repeat' (first | (show Ev _ _ _ _; first | refine Ev_seq ?_ | refine W_reg ?_ | refine Ev_block ?_ | refine W_ifT ?_ | refine W_ifY ?_ | refine Ev_skip ?_ | refine Ev_exit ?_) | (show EvD _ _ [] _ _ _; refine W_nil ?_) | (show EvD _ _ (_ :: _) _ _ _; first | refine W_run tok ?_ ?_ (by simp (maxSteps := 1000000) (disch := omega) only [go_sem, wrap_i64_id, g1, b1, d2, b3]; with_reducible exact rfl)) | refine Q_thenN ?_ | refine Q_thenE ?_ | refine Q_blkE ?_ | fail)
     all_goals (try exact sd)
     all_goals (try refine F_done ?_)
     refine Q_rndC (Rb := σ.rows) (A := σ.boxes) (Mb := σ.maps) (R := ((fun i => [some ⟨pairsD (rngP (P.take i) f t), 39, 2⟩]) (i))) (R' := ((fun i => [some ⟨pairsD (rngP (P.take i) f t), 39, 2⟩]) (i + 1))) (B := []) (B' := []) (M := []) (M' := []) ?_ (by omega) (by first | rfl | simp only [List.append_nil]) (by first | rfl | simp only [List.append_nil]) (by first | ((try simp only [List.append_nil, List.cons_append, List.nil_append, List.append_assoc, hsn]) <;> exact rfl) | exact (List.append_nil _).symm) (by first | ((try simp only [List.append_nil, List.cons_append, List.nil_append, List.append_assoc, hsn]) <;> exact rfl) | exact (List.append_nil _).symm) (by first | ((try simp only [List.append_nil, List.cons_append, List.nil_append, List.append_assoc, hsn]) <;> exact rfl) | exact (List.append_nil _).symm) (by simp) (by simp) (by simp) (by simp [nameds, DV.named, bytes_named, nameds_append, pairsD_named, strsD_named, kidsD_named, nodesD_named] <;> omega) (by repeat (first | exact allN_nil _ | refine allN_none ?_ | refine allN_some (by first | exact bytes_named _ _ _ _ | (simp [nameds, DV.named, bytes_named, nameds_append, pairsD_named, strsD_named, kidsD_named, nodesD_named] <;> omega)) ?_)) (by repeat (first | exact allN_nil _ | refine allN_none ?_ | refine allN_some (by first | exact bytes_named _ _ _ _ | (simp [nameds, DV.named, bytes_named, nameds_append, pairsD_named, strsD_named, kidsD_named, nodesD_named] <;> omega)) ?_)) (by simp)
     repeat (first | exact LeL.nil | refine LeL.cons2 ?_ (Le.undef _) | refine LeL.cons2 ?_ (Le.refl _) | refine LeL.cons2 ?_ (Le.sl _) | refine LeL.cons2 ?_ (Le.eq (by first | rfl | exact congrArg _ (by omega))) | refine LeL.cons2 ?_ (Le.eq ?_))
     all_goals first | (rw [hsn]; done) | (rw [hsn, List.length_append]; done) | trace_state
 ·obtain rfl : i = P.length := by omega
  rw [List.take_length] at hpl hle ⊢
  repeat' (first | (show Ev _ _ _ _; first | refine Ev_seq ?_ | refine W_reg ?_ | refine W_ifN ?_ | refine Ev_exit ?_ | refine Ev_ret ?_) | (show EvD _ _ [] _ _ _; refine W_nil ?_) | (show EvD _ _ (_ :: _) _ _ _; first | refine W_run tok ?_ ?_ (by simp (maxSteps := 1000000) (disch := omega) only [go_sem, wrap_i64_id]; with_reducible exact rfl)) | (show RetQ _ _ (RP _ _) _ _; refine R_ret ?_ ?_) | (show FrzTo _ _ _ _; refine F_row ?_) | refine Q_thenN ?_ | refine Q_thenE ?_ | refine Q_blkE ?_ | refine Q_rndE ?_ | fail)
  all_goals (try exact sd)
  all_goals (try refine F_done ?_)
  all_goals first | rfl | trace_state
instance i_bursarref09_Range (N : List NodeB) (f t : List UInt8) : Con Try.prog 43 [.sl (nodesD N), .str f, .str t] (sizeT N) (.sl (pairsD (rngP (pairsOf N) f t))) := ⟨c_bursarref09_Range N  f t ⟩
def rngT (N : List NodeB) (f t : List UInt8) : List PairB × Nat := if rightT N = false then ([], 11) else (rngP (pairsOf N) f t, 0)
theorem pairsOf_at {N : List NodeB} {i : Nat} (h : i < N.length) {P : List PairB} {K : List (List UInt8)} {C : List Int} (e : N.getD i ([], [], []) = (P, K, C)) (f t : List UInt8) : rngP (pairsOf (N.take (i + 1))) f t = rngP (pairsOf (N.take i)) f t ++ rngP P f t := by
 rw [← pairsOf_snoc h e, rngP_append]
theorem c_tree_Range (N : List NodeB) (f t : List UInt8) (hC : sizeT N) : Pure Try.prog n_tree_Range [.sl (nodesD N), .str f, .str t] (.tup [.sl (pairsD (rngT N f t).1), .int .i64 (rngT N f t).2]) := by
 refine Pure.go tok (rs := [.tmp 6, .tmp 7]) [.sl (nodesD N), .str f, .str t, .undef, .undef, .undef, .undef, .undef, .undef, .undef, .undef, .undef, .undef, .undef, .undef, .undef, .undef, .undef, .undef, .undef, .undef, .undef, .undef, .undef, .undef, .undef, .undef, .undef, .undef, .undef, .undef, .undef, .undef, .undef, .undef, .undef, .undef, .undef, .undef, .undef, .undef, .undef, .undef, .undef, .undef, .undef, .undef, .undef, .undef, .undef] Try.func36 (fun σ => ?_)
 have iQ : Con Try.prog 39 [.sl (nodesD N)] True (.bool (rightT N)) := ⟨fun _ => c_tree_Right N hC⟩
 obtain ⟨h1, h2, h3⟩ := hC
 have hsN := nodesD_len N
 unfold rngT
 by_cases hr : rightT N = false
 ·rw [if_pos hr]
  rw [hr] at iQ
  repeat' (first | (show Ev _ _ _ _; first | refine Ev_seq ?_ | refine W_reg ?_ | refine W_ifT ?_ | refine Ev_ret ?_) | (show EvD _ _ [] _ _ _; refine W_nil ?_) | (show EvD _ _ (_ :: _) _ _ _; first | refine W_run tok ?_ ?_ (by simp (maxSteps := 1000000) (disch := omega) only [go_sem, wrap_i64_id]; with_reducible exact rfl) | refine W_callee ?_) | (show EvC _ _ _ _ _ _ _ _ _; refine W_con ?_ ?_) | (show RetQ _ _ (RP _ _) _ _; refine R_ret ?_ ?_) | (show FrzTo _ _ _ _; refine F_weak ?_) | refine Q_thenN ?_ | refine Q_thenR ?_ | fail)
  all_goals (try exact sd)
  all_goals (try refine F_done ?_)
  all_goals first | rfl | trace_state
 ·rw [if_neg hr]
  rw [Bool.not_eq_false] at hr
  rw [hr] at iQ
  repeat' (first | (show Ev _ _ _ _; first | refine Ev_seq ?_ | refine W_reg ?_ | refine Ev_block ?_ | refine W_ifF ?_ | refine Ev_skip ?_) | (show EvD _ _ [] _ _ _; refine W_nil ?_) | (show EvD _ _ (_ :: _) _ _ _; first | refine W_run tok ?_ ?_ (by simp (maxSteps := 1000000) (disch := omega) only [go_sem, wrap_i64_id]; with_reducible exact rfl) | refine W_callee ?_) | (show EvC _ _ _ _ _ _ _ _ _; refine W_con ?_ ?_) | refine Q_thenN ?_ | fail)
  all_goals (try exact sd)
  all_goals (try refine F_done ?_)
  refine Ev_seed 8 39 2 rfl (by decide) (by simp only [List.set_cons_succ, List.set_cons_zero]; exact rfl) ?_
  refine Ev_lp (N.length) (fun i => [(8, .row σ.rows.length (rngP (pairsOf (N.take i)) f t).length), (18, i64 i)]) (fun i => ⟨σ.rows ++ [some ⟨pairsD (rngP (pairsOf (N.take i)) f t), 39, 2⟩], σ.boxes, σ.maps⟩) [10, 12, 19, 20, 21, 22, 23, 24, 25, 26, 27, 28, 29, 30, 31, 32, 33, 34, 35, 36, 37, 38, 39, 40, 41, 42, 43, 44, 45, 46, 47, 48] ?_ (by simp [rngP, pairsOf, pairsD]) (fun i hi => ?_)
  ·exact le1
  by_cases hi' : i < N.length
  ·obtain ⟨P, K, C, e1, g1, m1⟩ := nget (N := N) (i := i) hi'
   obtain ⟨s1, s2, s3⟩ := h2 _ m1
   simp only at s1 s2 s3
   have hat := pairsOf_at hi' e1 f t
   have hlA : (rngP (pairsOf (N.take i)) f t).length + P.length ≤ 3000 := by
    have h5 := pairsOf_snoc hi' e1
    have h6 := pairsOf_le N (i + 1)
    rw [← h5, List.length_append] at h6
    have h7 : (rngP (pairsOf (N.take i)) f t).length ≤ (pairsOf (N.take i)).length := List.length_filter_le _ _
    omega
   generalize rngP (pairsOf (N.take i)) f t = A at hat hlA
   have hP5 := pairsD_len P
   repeat' (first | (show Ev _ _ _ _; first | refine Ev_seq ?_ | refine W_reg ?_ | refine Ev_block ?_ | refine W_ifY ?_ | refine Ev_skip ?_) | (show EvD _ _ [] _ _ _; refine W_nil ?_) | (show EvD _ _ (_ :: _) _ _ _; first | refine W_run tok ?_ ?_ (by simp (maxSteps := 1000000) (disch := omega) only [go_sem, wrap_i64_id, g1]; with_reducible exact rfl)) | refine Q_thenN ?_ | fail)
   all_goals (try exact sd)
   all_goals (try refine F_done ?_)
   refine Ev_lp (P.length) (fun j => [(8, .row σ.rows.length (A ++ rngP (P.take j) f t).length), (25, i64 j)]) (fun j => ⟨σ.rows ++ [some ⟨pairsD (A ++ rngP (P.take j) f t), 39, 2⟩], σ.boxes ++ [some ⟨42, [.sl (pairsD P), .sl (strsD K), .sl (kidsD C)]⟩], σ.maps⟩) [12, 26, 27, 28, 29, 30, 31, 32, 33, 34, 35, 36, 37, 38, 39, 40, 41, 42, 43, 44, 45, 46, 47] ?_ (by simp [rngP]) (fun j hi => ?_)
   ·exact le1
   have hle := rngP_le P f t j
   have hpl := pairsD_len (A ++ rngP (P.take j) f t)
   have hal : (A ++ rngP (P.take j) f t).length = A.length + (rngP (P.take j) f t).length := List.length_append
   by_cases hj' : j < P.length
   ·obtain ⟨k, v, hk, g2⟩ := pget (P := P) (i := j) hj'
    have hsn := rngP_snoc (f := f) (t := t) hj' hk
    have hle2 := rngP_le P f t (j + 1)
    have hpl2 := pairsD_len (A ++ rngP (P.take (j + 1)) f t)
    by_cases b1 : Op.bytesLess k f = true
    ·have e : inR f t (k, v) = false := by simp [inR, b1]
     rw [e, if_neg (by simp)] at hsn
     repeat' (first | (show Ev _ _ _ _; first | refine Ev_seq ?_ | refine W_reg ?_ | refine Ev_block ?_ | refine W_ifF ?_ | refine W_ifY ?_ | refine Ev_skip ?_) | (show EvD _ _ [] _ _ _; refine W_nil ?_) | (show EvD _ _ (_ :: _) _ _ _; first | refine W_run tok ?_ ?_ (by simp (maxSteps := 1000000) (disch := omega) only [go_sem, wrap_i64_id, g2, b1]; with_reducible exact rfl)) | refine Q_thenN ?_ | refine Q_blkN ?_ | fail)
     all_goals (try exact sd)
     all_goals (try refine F_done ?_)
     refine Q_rndC (Rb := σ.rows) (A := σ.boxes) (Mb := σ.maps) (R := ((fun j => [some ⟨pairsD (A ++ rngP (P.take j) f t), 39, 2⟩]) (j))) (R' := ((fun j => [some ⟨pairsD (A ++ rngP (P.take j) f t), 39, 2⟩]) (j + 1))) (B := ((fun j => [some ⟨42, [.sl (pairsD P), .sl (strsD K), .sl (kidsD C)]⟩]) (j))) (B' := ((fun j => [some ⟨42, [.sl (pairsD P), .sl (strsD K), .sl (kidsD C)]⟩]) (j + 1))) (M := []) (M' := []) ?_ (by omega) (by first | rfl | simp only [List.append_nil]) (by first | rfl | simp only [List.append_nil]) (by first | ((try simp only [List.append_nil, List.cons_append, List.nil_append, List.append_assoc, hsn]) <;> exact rfl) | exact (List.append_nil _).symm) (by first | ((try simp only [List.append_nil, List.cons_append, List.nil_append, List.append_assoc, hsn]) <;> exact rfl) | exact (List.append_nil _).symm) (by first | ((try simp only [List.append_nil, List.cons_append, List.nil_append, List.append_assoc, hsn]) <;> exact rfl) | exact (List.append_nil _).symm) (by simp) (by simp) (by simp) (by simp [nameds, DV.named, bytes_named, nameds_append, pairsD_named, strsD_named, kidsD_named, nodesD_named] <;> omega) (by repeat (first | exact allN_nil _ | refine allN_none ?_ | refine allN_some (by first | exact bytes_named _ _ _ _ | (simp [nameds, DV.named, bytes_named, nameds_append, pairsD_named, strsD_named, kidsD_named, nodesD_named] <;> omega)) ?_)) (by repeat (first | exact allN_nil _ | refine allN_none ?_ | refine allN_some (by first | exact bytes_named _ _ _ _ | (simp [nameds, DV.named, bytes_named, nameds_append, pairsD_named, strsD_named, kidsD_named, nodesD_named] <;> omega)) ?_)) (by simp)
     repeat (first | exact LeL.nil | refine LeL.cons2 ?_ (Le.undef _) | refine LeL.cons2 ?_ (Le.refl _) | refine LeL.cons2 ?_ (Le.sl _) | refine LeL.cons2 ?_ (Le.eq (by first | rfl | exact congrArg _ (by omega))) | refine LeL.cons2 ?_ (Le.eq ?_))
     all_goals first | (rw [hsn]; done) | (rw [hsn, List.length_append]; done) | trace_state
    ·rw [Bool.not_eq_true] at b1
     by_cases b2 : t = []
     ·have d2 : decide (t = []) = true := decide_eq_true b2
      have e : inR f t (k, v) = true := by simp [inR, b1, b2]
      rw [e, if_pos rfl] at hsn
      have hs2 := pairs_one (A ++ rngP (P.take j) f t) k v
      rw [List.append_assoc, ← hsn] at hs2
      have hln : (A ++ rngP (P.take j) f t).length + 1 = (A ++ rngP (P.take (j + 1)) f t).length := by rw [hsn]; simp [Nat.add_assoc]
      repeat' (first | (show Ev _ _ _ _; first | refine Ev_seq ?_ | refine W_reg ?_ | refine Ev_block ?_ | refine W_ifT ?_ | refine W_ifY ?_ | refine Ev_skip ?_) | (show EvD _ _ [] _ _ _; refine W_nil ?_) | (show EvD _ _ (_ :: _) _ _ _; first | refine W_run tok ?_ ?_ (by simp (maxSteps := 1000000) (disch := omega) only [go_sem, wrap_i64_id, g2, b1, d2]; with_reducible exact rfl)) | refine Q_thenN ?_ | refine Q_blkN ?_ | fail)
      all_goals (try exact sd)
      all_goals (try refine F_done ?_)
      ·refine Q_rndC (Rb := σ.rows) (A := σ.boxes) (Mb := σ.maps) (R := ((fun j => [some ⟨pairsD (A ++ rngP (P.take j) f t), 39, 2⟩]) (j))) (R' := ((fun j => [some ⟨pairsD (A ++ rngP (P.take j) f t), 39, 2⟩]) (j + 1))) (B := ((fun j => [some ⟨42, [.sl (pairsD P), .sl (strsD K), .sl (kidsD C)]⟩]) (j))) (B' := ((fun j => [some ⟨42, [.sl (pairsD P), .sl (strsD K), .sl (kidsD C)]⟩]) (j + 1))) (M := []) (M' := []) ?_ (by omega) (by first | rfl | simp only [List.append_nil]) (by first | rfl | simp only [List.append_nil]) (by first | ((try simp only [List.append_nil, List.cons_append, List.nil_append, List.append_assoc, hs2]) <;> exact rfl) | exact (List.append_nil _).symm) (by first | ((try simp only [List.append_nil, List.cons_append, List.nil_append, List.append_assoc, hs2]) <;> exact rfl) | exact (List.append_nil _).symm) (by first | ((try simp only [List.append_nil, List.cons_append, List.nil_append, List.append_assoc, hs2]) <;> exact rfl) | exact (List.append_nil _).symm) (by simp) (by simp) (by simp) (by simp [nameds, DV.named, bytes_named, nameds_append, pairsD_named, strsD_named, kidsD_named, nodesD_named] <;> omega) (by repeat (first | exact allN_nil _ | refine allN_none ?_ | refine allN_some (by first | exact bytes_named _ _ _ _ | (simp [nameds, DV.named, bytes_named, nameds_append, pairsD_named, strsD_named, kidsD_named, nodesD_named] <;> omega)) ?_)) (by repeat (first | exact allN_nil _ | refine allN_none ?_ | refine allN_some (by first | exact bytes_named _ _ _ _ | (simp [nameds, DV.named, bytes_named, nameds_append, pairsD_named, strsD_named, kidsD_named, nodesD_named] <;> omega)) ?_)) (by simp)
       repeat (first | exact LeL.nil | refine LeL.cons2 ?_ (Le.undef _) | refine LeL.cons2 ?_ (Le.refl _) | refine LeL.cons2 ?_ (Le.sl _) | refine LeL.cons2 ?_ (Le.eq (by first | rfl | exact congrArg _ (by omega))) | refine LeL.cons2 ?_ (Le.eq ?_))
      all_goals trace_state
     ·have d2 : decide (t = []) = false := decide_eq_false b2
      by_cases b3 : Op.bytesLess k t = true
      ·have e : inR f t (k, v) = true := by simp [inR, b1, b3]
       rw [e, if_pos rfl] at hsn
       have hs2 := pairs_one (A ++ rngP (P.take j) f t) k v
       rw [List.append_assoc, ← hsn] at hs2
       have hln : (A ++ rngP (P.take j) f t).length + 1 = (A ++ rngP (P.take (j + 1)) f t).length := by rw [hsn]; simp [Nat.add_assoc]
       repeat' (first | (show Ev _ _ _ _; first | refine Ev_seq ?_ | refine W_reg ?_ | refine Ev_block ?_ | refine W_ifT ?_ | refine W_ifY ?_ | refine Ev_skip ?_) | (show EvD _ _ [] _ _ _; refine W_nil ?_) | (show EvD _ _ (_ :: _) _ _ _; first | refine W_run tok ?_ ?_ (by simp (maxSteps := 1000000) (disch := omega) only [go_sem, wrap_i64_id, g2, b1, d2, b3]; with_reducible exact rfl)) | refine Q_thenN ?_ | refine Q_blkN ?_ | fail)
       all_goals (try exact sd)
       all_goals (try refine F_done ?_)
       ·refine Q_rndC (Rb := σ.rows) (A := σ.boxes) (Mb := σ.maps) (R := ((fun j => [some ⟨pairsD (A ++ rngP (P.take j) f t), 39, 2⟩]) (j))) (R' := ((fun j => [some ⟨pairsD (A ++ rngP (P.take j) f t), 39, 2⟩]) (j + 1))) (B := ((fun j => [some ⟨42, [.sl (pairsD P), .sl (strsD K), .sl (kidsD C)]⟩]) (j))) (B' := ((fun j => [some ⟨42, [.sl (pairsD P), .sl (strsD K), .sl (kidsD C)]⟩]) (j + 1))) (M := []) (M' := []) ?_ (by omega) (by first | rfl | simp only [List.append_nil]) (by first | rfl | simp only [List.append_nil]) (by first | ((try simp only [List.append_nil, List.cons_append, List.nil_append, List.append_assoc, hs2]) <;> exact rfl) | exact (List.append_nil _).symm) (by first | ((try simp only [List.append_nil, List.cons_append, List.nil_append, List.append_assoc, hs2]) <;> exact rfl) | exact (List.append_nil _).symm) (by first | ((try simp only [List.append_nil, List.cons_append, List.nil_append, List.append_assoc, hs2]) <;> exact rfl) | exact (List.append_nil _).symm) (by simp) (by simp) (by simp) (by simp [nameds, DV.named, bytes_named, nameds_append, pairsD_named, strsD_named, kidsD_named, nodesD_named] <;> omega) (by repeat (first | exact allN_nil _ | refine allN_none ?_ | refine allN_some (by first | exact bytes_named _ _ _ _ | (simp [nameds, DV.named, bytes_named, nameds_append, pairsD_named, strsD_named, kidsD_named, nodesD_named] <;> omega)) ?_)) (by repeat (first | exact allN_nil _ | refine allN_none ?_ | refine allN_some (by first | exact bytes_named _ _ _ _ | (simp [nameds, DV.named, bytes_named, nameds_append, pairsD_named, strsD_named, kidsD_named, nodesD_named] <;> omega)) ?_)) (by simp)
        repeat (first | exact LeL.nil | refine LeL.cons2 ?_ (Le.undef _) | refine LeL.cons2 ?_ (Le.refl _) | refine LeL.cons2 ?_ (Le.sl _) | refine LeL.cons2 ?_ (Le.eq (by first | rfl | exact congrArg _ (by omega))) | refine LeL.cons2 ?_ (Le.eq ?_))
       all_goals trace_state
      ·rw [Bool.not_eq_true] at b3
       have e : inR f t (k, v) = false := by simp [inR, b2, b3]
       rw [e, if_neg (by simp)] at hsn
       repeat' (first | (show Ev _ _ _ _; first | refine Ev_seq ?_ | refine W_reg ?_ | refine Ev_block ?_ | refine W_ifF ?_ | refine W_ifY ?_ | refine Ev_skip ?_) | (show EvD _ _ [] _ _ _; refine W_nil ?_) | (show EvD _ _ (_ :: _) _ _ _; first | refine W_run tok ?_ ?_ (by simp (maxSteps := 1000000) (disch := omega) only [go_sem, wrap_i64_id, g2, b1, d2, b3]; with_reducible exact rfl)) | refine Q_thenN ?_ | refine Q_blkN ?_ | fail)
       all_goals (try exact sd)
       all_goals (try refine F_done ?_)
       refine Q_rndC (Rb := σ.rows) (A := σ.boxes) (Mb := σ.maps) (R := ((fun j => [some ⟨pairsD (A ++ rngP (P.take j) f t), 39, 2⟩]) (j))) (R' := ((fun j => [some ⟨pairsD (A ++ rngP (P.take j) f t), 39, 2⟩]) (j + 1))) (B := ((fun j => [some ⟨42, [.sl (pairsD P), .sl (strsD K), .sl (kidsD C)]⟩]) (j))) (B' := ((fun j => [some ⟨42, [.sl (pairsD P), .sl (strsD K), .sl (kidsD C)]⟩]) (j + 1))) (M := []) (M' := []) ?_ (by omega) (by first | rfl | simp only [List.append_nil]) (by first | rfl | simp only [List.append_nil]) (by first | ((try simp only [List.append_nil, List.cons_append, List.nil_append, List.append_assoc, hsn]) <;> exact rfl) | exact (List.append_nil _).symm) (by first | ((try simp only [List.append_nil, List.cons_append, List.nil_append, List.append_assoc, hsn]) <;> exact rfl) | exact (List.append_nil _).symm) (by first | ((try simp only [List.append_nil, List.cons_append, List.nil_append, List.append_assoc, hsn]) <;> exact rfl) | exact (List.append_nil _).symm) (by simp) (by simp) (by simp) (by simp [nameds, DV.named, bytes_named, nameds_append, pairsD_named, strsD_named, kidsD_named, nodesD_named] <;> omega) (by repeat (first | exact allN_nil _ | refine allN_none ?_ | refine allN_some (by first | exact bytes_named _ _ _ _ | (simp [nameds, DV.named, bytes_named, nameds_append, pairsD_named, strsD_named, kidsD_named, nodesD_named] <;> omega)) ?_)) (by repeat (first | exact allN_nil _ | refine allN_none ?_ | refine allN_some (by first | exact bytes_named _ _ _ _ | (simp [nameds, DV.named, bytes_named, nameds_append, pairsD_named, strsD_named, kidsD_named, nodesD_named] <;> omega)) ?_)) (by simp)
       repeat (first | exact LeL.nil | refine LeL.cons2 ?_ (Le.undef _) | refine LeL.cons2 ?_ (Le.refl _) | refine LeL.cons2 ?_ (Le.sl _) | refine LeL.cons2 ?_ (Le.eq (by first | rfl | exact congrArg _ (by omega))) | refine LeL.cons2 ?_ (Le.eq ?_))
       all_goals first | (rw [hsn]; done) | (rw [hsn, List.length_append]; done) | trace_state
   ·obtain rfl : j = P.length := by omega
    rw [List.take_length, ← hat] at *
    repeat' (first | (show Ev _ _ _ _; first | refine Ev_seq ?_ | refine W_reg ?_ | refine W_ifN ?_ | refine Ev_exit ?_) | (show EvD _ _ [] _ _ _; refine W_nil ?_) | (show EvD _ _ (_ :: _) _ _ _; first | refine W_run tok ?_ ?_ (by simp (maxSteps := 1000000) (disch := omega) only [go_sem, wrap_i64_id]; with_reducible exact rfl)) | refine Q_thenN ?_ | refine Q_thenE ?_ | refine Q_blkN ?_ | refine Q_blkE ?_ | refine Q_rndE ?_ | fail)
    all_goals (try exact sd)
    all_goals (try refine F_done ?_)
    ·refine Q_rndC (Rb := σ.rows) (A := σ.boxes) (Mb := σ.maps) (R := ((fun i => [some ⟨pairsD (rngP (pairsOf (N.take i)) f t), 39, 2⟩]) (i))) (R' := ((fun i => [some ⟨pairsD (rngP (pairsOf (N.take i)) f t), 39, 2⟩]) (i + 1))) (B := []) (B' := []) (M := []) (M' := []) ?_ (by omega) (by first | rfl | simp only [List.append_nil]) (by first | rfl | simp only [List.append_nil]) (by first | ((try simp only [List.append_nil, List.cons_append, List.nil_append, List.append_assoc]) <;> exact rfl) | exact (List.append_nil _).symm) (by first | ((try simp only [List.append_nil, List.cons_append, List.nil_append, List.append_assoc]) <;> exact rfl) | exact (List.append_nil _).symm) (by first | ((try simp only [List.append_nil, List.cons_append, List.nil_append, List.append_assoc]) <;> exact rfl) | exact (List.append_nil _).symm) (by simp) (by simp) (by simp) (by simp [nameds, DV.named, bytes_named, nameds_append, pairsD_named, strsD_named, kidsD_named, nodesD_named] <;> omega) (by repeat (first | exact allN_nil _ | refine allN_none ?_ | refine allN_some (by first | exact bytes_named _ _ _ _ | (simp [nameds, DV.named, bytes_named, nameds_append, pairsD_named, strsD_named, kidsD_named, nodesD_named] <;> omega)) ?_)) (by repeat (first | exact allN_nil _ | refine allN_none ?_ | refine allN_some (by first | exact bytes_named _ _ _ _ | (simp [nameds, DV.named, bytes_named, nameds_append, pairsD_named, strsD_named, kidsD_named, nodesD_named] <;> omega)) ?_)) (by simp)
     repeat (first | exact LeL.nil | refine LeL.cons2 ?_ (Le.undef _) | refine LeL.cons2 ?_ (Le.refl _) | refine LeL.cons2 ?_ (Le.sl _) | refine LeL.cons2 ?_ (Le.eq (by first | rfl | exact congrArg _ (by omega))) | refine LeL.cons2 ?_ (Le.eq ?_))
    all_goals trace_state
  ·obtain rfl : i = N.length := by omega
   have hle : (rngP (pairsOf N) f t).length ≤ (pairsOf N).length := List.length_filter_le _ _
   have hpl := pairsD_len (rngP (pairsOf N) f t)
   rw [List.take_length]
   repeat' (first | (show Ev _ _ _ _; first | refine Ev_seq ?_ | refine W_reg ?_ | refine W_ifN ?_ | refine Ev_exit ?_ | refine Ev_ret ?_) | (show EvD _ _ [] _ _ _; refine W_nil ?_) | (show EvD _ _ (_ :: _) _ _ _; first | refine W_run tok ?_ ?_ (by simp (maxSteps := 1000000) (disch := omega) only [go_sem, wrap_i64_id]; with_reducible exact rfl)) | (show RetQ _ _ (RP _ _) _ _; refine R_ret ?_ ?_) | (show FrzTo _ _ _ _; refine F_row ?_) | refine Q_thenN ?_ | refine Q_thenE ?_ | refine Q_blkE ?_ | refine Q_rndE ?_ | fail)
   all_goals (try exact sd)
   all_goals (try refine F_done ?_)
   all_goals first | rfl | trace_state
instance i_tree_Range (N : List NodeB) (f t : List UInt8) : Con Try.prog 36 [.sl (nodesD N), .str f, .str t] (sizeT N) (.tup [.sl (pairsD (rngT N f t).1), .int .i64 (rngT N f t).2]) := ⟨c_tree_Range N  f t ⟩
end Go.Val.Ytgjmpefhjdgkoaa
