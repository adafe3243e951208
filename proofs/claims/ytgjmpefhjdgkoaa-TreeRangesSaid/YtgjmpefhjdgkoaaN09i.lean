/- Chapter 09: the statement that a tree is built as the reference builds it: its examples, and its law, walked. -/
import Derived.Test.YtgjmpefhjdgkoaaN09h
namespace Go.Val.Ytgjmpefhjdgkoaa
open Go Go.Val Go.Proofs Go.Proofs.Ytgjmpefhjdgkoaa
attribute [local irreducible] Ev EvD EvC thenQ blockQ RoundG RetQ
set_option maxRecDepth 100000
set_option maxHeartbeats 4000000
set_option linter.unusedSimpArgs false
set_option linter.unusedVariables false
def mkv (i : Nat) : PairB := ([UInt8.ofNat (97 + i / 26), UInt8.ofNat (97 + i % 26)], [118])
def manyP (n : Nat) : List PairB := (List.range n).map mkv
theorem manyP_len (n : Nat) : (manyP n).length = n := by simp [manyP]
theorem manyP_snoc (i : Nat) : pairsD (manyP i) ++ [.agg [.str [UInt8.ofNat (97 + i / 26), UInt8.ofNat (97 + i % 26)], .str [118]]] = pairsD (manyP (i + 1)) := by simp [manyP, pairsD, List.range_succ, pairD, mkv]
theorem u8_nat {k : Nat} (h : k < 256) : IntKind.u8.wrap (k : Int) = ((UInt8.ofNat k).toNat : Int) := by
 rw [wrap_u8_id (by omega) (by omega)]
 simp [UInt8.toNat_ofNat']; omega
theorem c_bursarlaw09_many (n : Nat) (hC : n ≤ 3000) : Pure Try.prog n_bursarlaw09_many [.int .i64 (n : Int)] (.sl (pairsD (manyP n))) := by
 refine Pure.go tok (rs := [.tmp 2]) [.int .i64 (n : Int), .undef, .undef, .undef, .undef, .undef, .undef, .undef, .undef, .undef, .undef, .undef, .undef, .undef, .undef, .undef, .undef, .undef, .undef, .undef, .undef, .undef, .undef, .undef, .undef] Try.func49 (fun σ => ?_)
 repeat' (first | (show Ev _ _ _ _; first | refine Ev_seq ?_ | refine W_reg ?_ | refine Ev_block ?_) | (show EvD _ _ [] _ _ _; refine W_nil ?_) | (show EvD _ _ (_ :: _) _ _ _; refine W_run tok ?_ ?_) | refine Q_thenN ?_ | fail)
 all_goals (try exact sd)
 all_goals (try refine F_done ?_)
 refine Ev_seed 3 39 2 rfl (by decide) (by simp only [List.set_cons_succ, List.set_cons_zero]; exact rfl) ?_
 refine Ev_lp (n) (fun i => [(3, .row σ.rows.length i), (4, i64 i)]) (fun i => ⟨σ.rows ++ [some ⟨pairsD (manyP i), 39, 2⟩], σ.boxes, σ.maps⟩) [5, 6, 7, 8, 9, 10, 11, 12, 13, 14, 15, 16, 17, 18, 19, 20, 21, 22, 23] ?_ (by simp [manyP, pairsD]) (fun i hi => ?_)
 ·exact le1
 have hml := manyP_len i
 have hml2 := (pairsD_len (manyP i)).trans hml
 by_cases hi' : i < n
 ·have hq : Int.tdiv (i : Int) 26 = ((i / 26 : Nat) : Int) := rfl
  have hr : Int.tmod (i : Int) 26 = ((i % 26 : Nat) : Int) := rfl
  have ea : (97 : Int) + ((i / 26 : Nat) : Int) = ((97 + i / 26 : Nat) : Int) := by omega
  have eb : (97 : Int) + ((i % 26 : Nat) : Int) = ((97 + i % 26 : Nat) : Int) := by omega
  have wa := u8_nat (k := 97 + i / 26) (by omega)
  have wb := u8_nat (k := 97 + i % 26) (by omega)
  have hs := manyP_snoc i
  repeat' (first | (show Ev _ _ _ _; first | refine Ev_seq ?_ | refine W_reg ?_ | refine Ev_block ?_ | refine W_ifY ?_ | refine Ev_skip ?_) | (show EvD _ _ [] _ _ _; refine W_nil ?_) | (show EvD _ _ (_ :: _) _ _ _; first | refine W_run tok ?_ ?_ (by simp (maxSteps := 1000000) (disch := omega) only [go_sem, wrap_i64_id, hq, hr, ea, eb, wa, wb]; with_reducible exact rfl)) | refine Q_thenN ?_ | refine Q_blkN ?_ | fail)
  all_goals (try exact sd)
  all_goals (try refine F_done ?_)
  ·refine Q_rndC (Rb := σ.rows) (A := σ.boxes) (Mb := σ.maps) (R := ((fun i => [some ⟨pairsD (manyP i), 39, 2⟩]) (i))) (R' := ((fun i => [some ⟨pairsD (manyP i), 39, 2⟩]) (i + 1))) (B := []) (B' := []) (M := []) (M' := []) ?_ (by omega) (by first | rfl | simp only [List.append_nil]) (by first | rfl | simp only [List.append_nil]) (by first | ((try simp only [List.append_nil, List.cons_append, List.nil_append, List.append_assoc, hs]) <;> exact rfl) | exact (List.append_nil _).symm) (by first | ((try simp only [List.append_nil, List.cons_append, List.nil_append, List.append_assoc, hs]) <;> exact rfl) | exact (List.append_nil _).symm) (by first | ((try simp only [List.append_nil, List.cons_append, List.nil_append, List.append_assoc, hs]) <;> exact rfl) | exact (List.append_nil _).symm) (by simp) (by simp) (by simp) (by simp [nameds, DV.named, bytes_named, nameds_append, pairsD_named] <;> omega) (by repeat (first | exact allN_nil _ | refine allN_none ?_ | refine allN_some (by first | exact bytes_named _ _ _ _ | (simp [nameds, DV.named, bytes_named, nameds_append, pairsD_named] <;> omega)) ?_)) (by repeat (first | exact allN_nil _ | refine allN_none ?_ | refine allN_some (by first | exact bytes_named _ _ _ _ | (simp [nameds, DV.named, bytes_named, nameds_append, pairsD_named] <;> omega)) ?_)) (by simp)
   repeat (first | exact LeL.nil | refine LeL.cons2 ?_ (Le.undef _) | refine LeL.cons2 ?_ (Le.refl _) | refine LeL.cons2 ?_ (Le.sl _) | refine LeL.cons2 ?_ (Le.eq (by first | rfl | exact congrArg _ (by omega))) | refine LeL.cons2 ?_ (Le.eq ?_))
  all_goals trace_state
 ·obtain rfl : i = n := by omega
  repeat' (first | (show Ev _ _ _ _; first | refine Ev_seq ?_ | refine W_reg ?_ | refine W_ifN ?_ | refine Ev_exit ?_ | refine Ev_ret ?_) | (show EvD _ _ [] _ _ _; refine W_nil ?_) | (show EvD _ _ (_ :: _) _ _ _; first | refine W_run tok ?_ ?_ (by simp (maxSteps := 1000000) (disch := omega) only [go_sem, wrap_i64_id]; with_reducible exact rfl)) | (show RetQ _ _ (RP _ _) _ _; refine R_ret ?_ ?_) | (show FrzTo _ _ _ _; refine F_row ?_) | refine Q_thenN ?_ | refine Q_thenE ?_ | refine Q_blkE ?_ | refine Q_rndE ?_ | fail)
  all_goals (try exact sd)
  all_goals (try refine F_done ?_)
  all_goals first | rfl | trace_state
instance i_bursarlaw09_many (n : Nat) : Con Try.prog 49 [.int .i64 (n : Int)] (n ≤ 3000) (.sl (pairsD (manyP n))) := ⟨c_bursarlaw09_many n ⟩
end Go.Val.Ytgjmpefhjdgkoaa
