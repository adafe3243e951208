/- Chapter 05, numbers and what may be, walked. -/
import Derived.Test.YtlfnmgmbmgacgaaK03
import Derived.Test.YtlfnmgmbmgacgaaVM5
namespace Go.Val.Ytlfnmgmbmgacgaa
open Go Go.Val Go.Proofs Go.Proofs.Ytlfnmgmbmgacgaa
attribute [local irreducible] Ev EvD EvC thenQ blockQ RoundG RetQ
set_option maxRecDepth 100000
set_option maxHeartbeats 4000000
set_option linter.unusedSimpArgs false
set_option linter.unusedVariables false
abbrev frameD (s : Int) (d : List UInt8) : DV := .agg [.int .i64 s, .sl (bytes d)]
def mayF (s : Int) (d : List UInt8) : Prop := 1 ≤ s ∧ s ≤ 281474976710655 ∧ (d.length : Int) ≤ 6000
instance (s : Int) (d : List UInt8) : Decidable (mayF s d) := by unfold mayF; infer_instance
def secI (n : Int) : Int := if 0 ≤ n ∧ n ≤ 6000 then ((n.toNat + 83) / 64 : Nat) else 0
theorem c_frame_May (s : Int) (d : List UInt8) (hC : True) : Pure Try.prog n_frame_May [frameD s d] (.bool (decide (mayF s d))) := by
 refine Pure.go tok (rs := [.tmp 2]) [frameD s d, .undef, .undef, .undef, .undef, .undef, .undef, .undef, .undef, .undef, .undef, .undef, .undef, .undef, .undef, .undef, .undef] Try.func48 (fun σ => ?_)
 by_cases h1 : 1 ≤ s
 ·by_cases h2 : s ≤ 281474976710655
  ·repeat' (first | (show Ev _ _ _ _; first | refine Ev_seq ?_ | refine W_reg ?_ | refine Ev_ret ?_) | (show EvD _ _ [] _ _ _; refine W_nil ?_) | (show EvD _ _ (⟨_, _, _, _, _, some _⟩ :: _) _ _ _; refine W_grdY ?_) | (show EvD _ _ (_ :: _) _ _ _; refine W_run tok ?_ ?_) | (show RetQ _ _ (RP _ _) _ _; refine R_ret ?_ ?_) | refine Q_thenN ?_ | fail)
   all_goals (try exact sd)
   all_goals (try refine F_done ?_)
   all_goals (simp [mayF, h1, h2])
  ·repeat' (first | (show Ev _ _ _ _; first | refine Ev_seq ?_ | refine W_reg ?_ | refine Ev_ret ?_) | (show EvD _ _ [] _ _ _; refine W_nil ?_) | (show EvD _ _ (⟨_, _, _, _, _, some _⟩ :: _) _ _ _; first | refine W_grdY ?_ | refine W_grdN ?_) | (show EvD _ _ (_ :: _) _ _ _; refine W_run tok ?_ ?_) | (show RetQ _ _ (RP _ _) _ _; refine R_ret ?_ ?_) | refine Q_thenN ?_ | fail)
   all_goals (try exact sd)
   all_goals (try refine F_done ?_)
   all_goals (simp [mayF, h1, h2])
 ·repeat' (first | (show Ev _ _ _ _; first | refine Ev_seq ?_ | refine W_reg ?_ | refine Ev_ret ?_) | (show EvD _ _ [] _ _ _; refine W_nil ?_) | (show EvD _ _ (⟨_, _, _, _, _, some _⟩ :: _) _ _ _; refine W_grdN ?_) | (show EvD _ _ (_ :: _) _ _ _; refine W_run tok ?_ ?_) | (show RetQ _ _ (RP _ _) _ _; refine R_ret ?_ ?_) | refine Q_thenN ?_ | fail)
  all_goals (try exact sd)
  all_goals (try refine F_done ?_)
  all_goals (simp [mayF, h1])
instance i_frame_May (s : Int) (d : List UInt8) : Con Try.prog 48 [frameD s d] (True) (.bool (decide (mayF s d))) := ⟨c_frame_May s  d ⟩
theorem c_bursarref05_May (s : Int) (d : List UInt8) (hC : True) : Pure Try.prog n_bursarref05_May [frameD s d] (.bool (decide (mayF s d))) := by
 refine Pure.go tok (rs := [.tmp 2]) [frameD s d, .undef, .undef, .undef, .undef, .undef, .undef, .undef, .undef, .undef, .undef, .undef, .undef, .undef, .undef, .undef, .undef] Try.func19 (fun σ => ?_)
 by_cases h1 : 1 ≤ s
 ·by_cases h2 : s ≤ 281474976710655
  ·repeat' (first | (show Ev _ _ _ _; first | refine Ev_seq ?_ | refine W_reg ?_ | refine Ev_ret ?_) | (show EvD _ _ [] _ _ _; refine W_nil ?_) | (show EvD _ _ (⟨_, _, _, _, _, some _⟩ :: _) _ _ _; refine W_grdY ?_) | (show EvD _ _ (_ :: _) _ _ _; refine W_run tok ?_ ?_) | (show RetQ _ _ (RP _ _) _ _; refine R_ret ?_ ?_) | refine Q_thenN ?_ | fail)
   all_goals (try exact sd)
   all_goals (try refine F_done ?_)
   all_goals (simp [mayF, h1, h2])
  ·repeat' (first | (show Ev _ _ _ _; first | refine Ev_seq ?_ | refine W_reg ?_ | refine Ev_ret ?_) | (show EvD _ _ [] _ _ _; refine W_nil ?_) | (show EvD _ _ (⟨_, _, _, _, _, some _⟩ :: _) _ _ _; first | refine W_grdY ?_ | refine W_grdN ?_) | (show EvD _ _ (_ :: _) _ _ _; refine W_run tok ?_ ?_) | (show RetQ _ _ (RP _ _) _ _; refine R_ret ?_ ?_) | refine Q_thenN ?_ | fail)
   all_goals (try exact sd)
   all_goals (try refine F_done ?_)
   all_goals (simp [mayF, h1, h2])
 ·repeat' (first | (show Ev _ _ _ _; first | refine Ev_seq ?_ | refine W_reg ?_ | refine Ev_ret ?_) | (show EvD _ _ [] _ _ _; refine W_nil ?_) | (show EvD _ _ (⟨_, _, _, _, _, some _⟩ :: _) _ _ _; refine W_grdN ?_) | (show EvD _ _ (_ :: _) _ _ _; refine W_run tok ?_ ?_) | (show RetQ _ _ (RP _ _) _ _; refine R_ret ?_ ?_) | refine Q_thenN ?_ | fail)
  all_goals (try exact sd)
  all_goals (try refine F_done ?_)
  all_goals (simp [mayF, h1])
instance i_bursarref05_May (s : Int) (d : List UInt8) : Con Try.prog 19 [frameD s d] (True) (.bool (decide (mayF s d))) := ⟨c_bursarref05_May s  d ⟩
theorem c_frame_Sectors (n : Int) (hC : True) : Pure Try.prog n_frame_Sectors [.int .i64 n] (.int .i64 (secI n)) := by
 refine Pure.go tok (rs := [.tmp 2]) [.int .i64 n, .undef, .undef, .undef, .undef, .undef, .undef, .undef, .undef, .undef, .undef, .undef, .undef, .undef, .undef] Try.func37 (fun σ => ?_)
 by_cases h : 0 ≤ n ∧ n ≤ 6000
 ·obtain ⟨m, rfl⟩ : ∃ m : Nat, n = m := ⟨n.toNat, by omega⟩
  have ht : Int.tdiv (16 + (m : Int) + 4 + 64 - 1) 64 = (((m + 83) / 64 : Nat) : Int) := by
   rw [show (16 + (m : Int) + 4 + 64 - 1) = ((m + 83 : Nat) : Int) by omega]; exact tdiv_nat _ 64
  have hs : secI (m : Int) = (((m + 83) / 64 : Nat) : Int) := by unfold secI; rw [if_pos h]; rfl
  rw [hs]
  repeat' (first | (show Ev _ _ _ _; first | refine Ev_seq ?_ | refine W_reg ?_ | refine W_ifN ?_ | refine Ev_skip ?_ | refine Ev_ret ?_) | (show EvD _ _ [] _ _ _; refine W_nil ?_) | (show EvD _ _ (⟨_, _, _, _, _, some _⟩ :: _) _ _ _; refine W_grdN ?_) | (show EvD _ _ (_ :: _) _ _ _; first | refine W_run tok ?_ ?_ (by simp (maxSteps := 1000000) (disch := omega) only [go_sem, wrap_i64_id, ht]; with_reducible exact rfl)) | (show RetQ _ _ (RP _ _) _ _; refine R_ret ?_ ?_) | refine Q_thenN ?_ | fail)
  all_goals (try exact sd)
  all_goals (try refine F_done ?_)
  all_goals first | rfl | (simp; omega) | skip
 ·have hs : secI n = 0 := by unfold secI; rw [if_neg h]
  rw [hs]
  by_cases h0 : n < 0
  ·repeat' (first | (show Ev _ _ _ _; first | refine Ev_seq ?_ | refine W_reg ?_ | refine W_ifT ?_ | refine Ev_ret ?_) | (show EvD _ _ [] _ _ _; refine W_nil ?_) | (show EvD _ _ (⟨_, _, _, _, _, some _⟩ :: _) _ _ _; refine W_grdY ?_) | (show EvD _ _ (_ :: _) _ _ _; first | refine W_run tok ?_ ?_ (by simp (maxSteps := 1000000) (disch := omega) only [go_sem, wrap_i64_id]; with_reducible exact rfl)) | (show RetQ _ _ (RP _ _) _ _; refine R_ret ?_ ?_) | refine Q_thenN ?_ | refine Q_thenR ?_ | fail)
   all_goals (try exact sd)
   all_goals (try refine F_done ?_)
   all_goals rfl
  ·have h6 : n > 6000 := by omega
   repeat' (first | (show Ev _ _ _ _; first | refine Ev_seq ?_ | refine W_reg ?_ | refine W_ifY ?_ | refine Ev_ret ?_) | (show EvD _ _ [] _ _ _; refine W_nil ?_) | (show EvD _ _ (⟨_, _, _, _, _, some _⟩ :: _) _ _ _; refine W_grdN ?_) | (show EvD _ _ (_ :: _) _ _ _; first | refine W_run tok ?_ ?_ (by simp (maxSteps := 1000000) (disch := omega) only [go_sem, wrap_i64_id]; with_reducible exact rfl)) | (show RetQ _ _ (RP _ _) _ _; refine R_ret ?_ ?_) | refine Q_thenN ?_ | refine Q_thenR ?_ | fail)
   all_goals (try exact sd)
   all_goals (try refine F_done ?_)
   all_goals rfl
instance i_frame_Sectors (n : Int) : Con Try.prog 37 [.int .i64 n] (True) (.int .i64 (secI n)) := ⟨c_frame_Sectors n ⟩
theorem c_frame_number (b : List UInt8) (hC : b.length ≤ 6) : Pure Try.prog n_frame_number [.sl (bytes b)] (.int .i64 (numN b)) := by
 refine Pure.go tok (rs := [.tmp 2]) [.sl (bytes b), .undef, .undef, .undef, .undef, .undef, .undef, .undef, .undef, .undef, .undef, .undef, .undef, .undef, .undef, .undef, .undef, .undef, .undef] Try.func72 (fun σ => ?_)
 repeat' (first | (show Ev _ _ _ _; first | refine Ev_seq ?_ | refine W_reg ?_ | refine Ev_block ?_) | (show EvD _ _ [] _ _ _; refine W_nil ?_) | (show EvD _ _ (_ :: _) _ _ _; first | refine W_run tok ?_ ?_ (by simp (maxSteps := 1000000) (disch := omega) only [go_sem, wrap_i64_id]; with_reducible exact rfl)) | refine Q_thenN ?_ | fail)
 all_goals (try exact sd)
 all_goals (try refine F_done ?_)
 refine Ev_lp (b.length) (fun i => [(3, .int .i64 (numN (b.take i))), (8, i64 i)]) (fun i => σ) [5, 9, 10, 11, 12, 13, 14, 15, 16, 17] ?_ (by first | rfl | (simp only [List.take_zero, List.append_nil]; done)) (fun i hi => ?_)
 ·exact le1
 by_cases hi' : i < b.length
 ·have hq := List.getElem?_eq_getElem hi'
  generalize b[i] = c at hq
  have hg := bytes_get hq
  have hn : numN (b.take i) < 1099511627776 := numN_le (k := 5) (by simp; omega)
  have hc := c.toNat_lt
  repeat' (first | (show Ev _ _ _ _; first | refine Ev_seq ?_ | refine W_reg ?_ | refine Ev_block ?_ | refine W_ifY ?_ | refine Ev_skip ?_) | (show EvD _ _ [] _ _ _; refine W_nil ?_) | (show EvD _ _ (_ :: _) _ _ _; first | refine W_run tok ?_ ?_ (by simp (maxSteps := 1000000) (disch := omega) only [go_sem, wrap_i64_id, hg, or8]; with_reducible exact rfl)) | refine Q_thenN ?_ | refine Q_blkN ?_ | fail)
  all_goals (try exact sd)
  all_goals (try refine F_done ?_)
  have hk := numN_take hq
  refine Q_rndN ?_ (by omega) ?_
  rotate_left
  ·rfl
  repeat (first | exact LeL.nil | refine LeL.cons2 ?_ (Le.undef _) | refine LeL.cons2 ?_ (Le.refl _) | refine LeL.cons2 ?_ (Le.sl _) | refine LeL.cons2 ?_ (Le.eq (by first | rfl | exact congrArg _ (by omega))) | refine LeL.cons2 ?_ (Le.eq ?_))
 ·obtain rfl : i = b.length := by omega
  repeat' (first | (show Ev _ _ _ _; first | refine Ev_seq ?_ | refine W_reg ?_ | refine W_ifN ?_ | refine Ev_exit ?_ | refine Ev_ret ?_) | (show EvD _ _ [] _ _ _; refine W_nil ?_) | (show EvD _ _ (_ :: _) _ _ _; first | refine W_run tok ?_ ?_ (by simp (maxSteps := 1000000) (disch := omega) only [go_sem, wrap_i64_id, List.take_length]; with_reducible exact rfl)) | (show RetQ _ _ (RP _ _) _ _; refine R_ret ?_ ?_) | refine Q_thenN ?_ | refine Q_thenE ?_ | refine Q_blkE ?_ | refine Q_rndE ?_ | fail)
  all_goals (try exact sd)
  all_goals (try refine F_done ?_)
  all_goals (try first | rfl | (exfalso; omega) | (simp only [DV.bool.injEq, DV.int.injEq, DV.str.injEq, DV.sl.injEq, DV.agg.injEq, DV.tup.injEq, List.cons.injEq, decide_eq_decide, decide_eq_true_eq, decide_eq_false_iff_not, true_and, and_true]; first | done | omega) | (simp; first | done | omega))
instance i_frame_number (b : List UInt8) : Con Try.prog 72 [.sl (bytes b)] (b.length ≤ 6) (.int .i64 (numN b)) := ⟨c_frame_number b ⟩
theorem c_bursarref05_Number (b : List UInt8) (hC : b.length ≤ 6) : Pure Try.prog n_bursarref05_Number [.str b] (.int .i64 (numN b)) := by
 refine Pure.go tok (rs := [.tmp 2]) [.str b, .undef, .undef, .undef, .undef, .undef, .undef, .undef, .undef, .undef, .undef, .undef, .undef, .undef, .undef, .undef, .undef, .undef, .undef] Try.func76 (fun σ => ?_)
 repeat' (first | (show Ev _ _ _ _; first | refine Ev_seq ?_ | refine W_reg ?_ | refine Ev_block ?_) | (show EvD _ _ [] _ _ _; refine W_nil ?_) | (show EvD _ _ (_ :: _) _ _ _; first | refine W_run tok ?_ ?_ (by simp (maxSteps := 1000000) (disch := omega) only [go_sem, wrap_i64_id]; with_reducible exact rfl)) | refine Q_thenN ?_ | fail)
 all_goals (try exact sd)
 all_goals (try refine F_done ?_)
 refine Ev_lp (b.length) (fun i => [(3, .int .i64 (numN (b.take i))), (4, i64 i)]) (fun i => σ) [5, 6, 7, 8, 9, 10, 11, 12, 13, 14, 15, 16, 17] ?_ (by first | rfl | (simp only [List.take_zero, List.append_nil]; done)) (fun i hi => ?_)
 ·exact le1
 by_cases hi' : i < b.length
 ·have hq := List.getElem?_eq_getElem hi'
  generalize b[i] = c at hq
  have hg : b.getD i 0 = c := by rw [List.getD_eq_getElem?_getD, hq]; rfl
  have hn : numN (b.take i) < 1099511627776 := numN_le (k := 5) (by simp; omega)
  have hc := c.toNat_lt
  repeat' (first | (show Ev _ _ _ _; first | refine Ev_seq ?_ | refine W_reg ?_ | refine Ev_block ?_ | refine W_ifY ?_ | refine Ev_skip ?_) | (show EvD _ _ [] _ _ _; refine W_nil ?_) | (show EvD _ _ (_ :: _) _ _ _; first | refine W_run tok ?_ ?_ (by simp (maxSteps := 1000000) (disch := omega) only [go_sem, wrap_i64_id, hg]; with_reducible exact rfl)) | refine Q_thenN ?_ | refine Q_blkN ?_ | fail)
  all_goals (try exact sd)
  all_goals (try refine F_done ?_)
  have hk := numN_take hq
  refine Q_rndN ?_ (by omega) ?_
  rotate_left
  ·rfl
  repeat (first | exact LeL.nil | refine LeL.cons2 ?_ (Le.undef _) | refine LeL.cons2 ?_ (Le.refl _) | refine LeL.cons2 ?_ (Le.sl _) | refine LeL.cons2 ?_ (Le.eq (by first | rfl | exact congrArg _ (by omega))) | refine LeL.cons2 ?_ (Le.eq ?_))
 ·obtain rfl : i = b.length := by omega
  repeat' (first | (show Ev _ _ _ _; first | refine Ev_seq ?_ | refine W_reg ?_ | refine W_ifN ?_ | refine Ev_exit ?_ | refine Ev_ret ?_) | (show EvD _ _ [] _ _ _; refine W_nil ?_) | (show EvD _ _ (_ :: _) _ _ _; first | refine W_run tok ?_ ?_ (by simp (maxSteps := 1000000) (disch := omega) only [go_sem, wrap_i64_id, List.take_length]; with_reducible exact rfl)) | (show RetQ _ _ (RP _ _) _ _; refine R_ret ?_ ?_) | refine Q_thenN ?_ | refine Q_thenE ?_ | refine Q_blkE ?_ | refine Q_rndE ?_ | fail)
  all_goals (try exact sd)
  all_goals (try refine F_done ?_)
  all_goals (try first | rfl | (exfalso; omega) | (simp only [DV.bool.injEq, DV.int.injEq, DV.str.injEq, DV.sl.injEq, DV.agg.injEq, DV.tup.injEq, List.cons.injEq, decide_eq_decide, decide_eq_true_eq, decide_eq_false_iff_not, true_and, and_true]; first | done | omega) | (simp; first | done | omega))
instance i_bursarref05_Number (b : List UInt8) : Con Try.prog 76 [.str b] (b.length ≤ 6) (.int .i64 (numN b)) := ⟨c_bursarref05_Number b ⟩
theorem c_bursarref05_Wide (n w : Nat) (hC : n < 18446744073709551616 ∧ w ≤ 8) : Pure Try.prog n_bursarref05_Wide [.int .u64 n, .int .i64 w] (.str (beN w n)) := by
 refine Pure.go tok (rs := [.tmp 4]) [.int .u64 n, .int .i64 w, .undef, .undef, .undef, .undef, .undef, .undef, .undef, .undef, .undef, .undef, .undef, .undef, .undef, .undef, .undef, .undef, .undef, .undef, .undef, .undef] Try.func40 (fun σ => ?_)
 repeat' (first | (show Ev _ _ _ _; first | refine Ev_seq ?_ | refine W_reg ?_ | refine Ev_block ?_) | (show EvD _ _ [] _ _ _; refine W_nil ?_) | (show EvD _ _ (_ :: _) _ _ _; first | refine W_run tok ?_ ?_ (by simp (maxSteps := 1000000) (disch := omega) only [go_sem, wrap_i64_id]; with_reducible exact rfl)) | refine Q_thenN ?_ | fail)
 all_goals (try exact sd)
 all_goals (try refine F_done ?_)
 refine Ev_lp (w) (fun i => [(0, .int .u64 (n / 256 ^ i : Nat)), (5, .str (beN i n)), (6, i64 i)]) (fun i => σ) [7, 8, 9, 10, 11, 12, 13, 14, 15, 16, 17, 18, 19, 20] ?_ (by first | rfl | (simp only [List.take_zero, List.append_nil]; done)) (fun i hi => ?_)
 ·exact le1
 by_cases hi' : i < w
 ·have hd : n / 256 ^ i < 18446744073709551616 := Nat.lt_of_le_of_lt (Nat.div_le_self _ _) hC.1
  have hl := beN_len i n
  have hf := beN_front i n
  have hp : n / 256 ^ (i + 1) = n / 256 ^ i / 256 := by rw [Nat.pow_succ, ← Nat.div_div_eq_div_mul]
  generalize n / 256 ^ i = m at hd hf hp ⊢
  repeat' (first | (show Ev _ _ _ _; first | refine Ev_seq ?_ | refine W_reg ?_ | refine Ev_block ?_ | refine W_ifY ?_ | refine Ev_skip ?_) | (show EvD _ _ [] _ _ _; refine W_nil ?_) | (show EvD _ _ (_ :: _) _ _ _; first | refine W_run tok ?_ ?_ (by simp (maxSteps := 1000000) (disch := omega) only [go_sem, wrap_i64_id, tmod256, tdiv256, u8_nat, ofNat_mod, wrap_u64_id]; with_reducible exact rfl)) | refine Q_thenN ?_ | refine Q_blkN ?_ | fail)
  all_goals (try exact sd)
  all_goals (try refine F_done ?_)
  refine Q_rndN ?_ (by omega) ?_
  rotate_left
  ·rfl
  repeat (first | exact LeL.nil | refine LeL.cons2 ?_ (Le.undef _) | refine LeL.cons2 ?_ (Le.refl _) | refine LeL.cons2 ?_ (Le.sl _) | refine LeL.cons2 ?_ (Le.eq (by first | rfl | exact congrArg _ (by omega))) | refine LeL.cons2 ?_ (Le.eq ?_))
  rw [hf]
 ·obtain rfl : i = w := by omega
  repeat' (first | (show Ev _ _ _ _; first | refine Ev_seq ?_ | refine W_reg ?_ | refine W_ifN ?_ | refine Ev_exit ?_ | refine Ev_ret ?_) | (show EvD _ _ [] _ _ _; refine W_nil ?_) | (show EvD _ _ (_ :: _) _ _ _; first | refine W_run tok ?_ ?_ (by simp (maxSteps := 1000000) (disch := omega) only [go_sem, wrap_i64_id]; with_reducible exact rfl)) | (show RetQ _ _ (RP _ _) _ _; refine R_ret ?_ ?_) | refine Q_thenN ?_ | refine Q_thenE ?_ | refine Q_blkE ?_ | refine Q_rndE ?_ | fail)
  all_goals (try exact sd)
  all_goals (try refine F_done ?_)
  all_goals (try first | rfl | (exfalso; omega) | (simp only [DV.bool.injEq, DV.int.injEq, DV.str.injEq, DV.sl.injEq, DV.agg.injEq, DV.tup.injEq, List.cons.injEq, decide_eq_decide, decide_eq_true_eq, decide_eq_false_iff_not, true_and, and_true]; first | done | omega) | (simp; first | done | omega))
instance i_bursarref05_Wide (n w : Nat) : Con Try.prog 40 [.int .u64 n, .int .i64 w] (n < 18446744073709551616 ∧ w ≤ 8) (.str (beN w n)) := ⟨c_bursarref05_Wide n w ⟩
instance i_Wide (n w : Int) : Con Try.prog n_bursarref05_Wide [.int .u64 n, .int .i64 w] (0 ≤ n ∧ n < 18446744073709551616 ∧ 0 ≤ w ∧ w ≤ 8) (.str (beN w.toNat n.toNat)) :=
 ⟨fun h => by
  have := c_bursarref05_Wide n.toNat w.toNat (by omega)
  rwa [show ((n.toNat : Nat) : Int) = n by omega, show ((w.toNat : Nat) : Int) = w by omega] at this⟩
theorem c_frame_lay (n w : Nat) (hC : n < 9223372036854775808 ∧ w ≤ 8) : PureApp Try.prog n_frame_lay [.int .i64 n, .int .i64 w] (bytes (beN w n)) 5 1 1099511627776 := by
 refine PureApp.go tok (rs := [.tmp 6]) (fun id len => [.row id len, .int .i64 n, .int .i64 w, .undef, .undef, .undef, .undef, .undef, .undef, .undef, .undef, .undef, .undef, .undef, .undef, .undef, .undef, .undef, .undef, .undef, .undef, .undef, .undef, .undef, .undef]) Try.func49 (fun σ id xs hR hroom => ?_)
 have hid := (List.getElem?_eq_some_iff.1 hR).1
 have gs : ∀ x, (σ.rows.set id x)[id]? = some x := fun x => List.getElem?_set_self hid
 repeat' (first | (show Ev _ _ _ _; first | refine Ev_seq ?_ | refine W_reg ?_ | refine Ev_block ?_) | (show EvD _ _ [] _ _ _; refine W_nil ?_) | (show EvD _ _ (_ :: _) _ _ _; first | refine W_run tok ?_ ?_ (by simp (maxSteps := 1000000) (disch := omega) only [go_sem, wrap_i64_id]; with_reducible exact rfl)) | refine Q_thenN ?_ | fail)
 all_goals (try exact sd)
 all_goals (try refine F_done ?_)
 refine Ev_lp (w) (fun i => [(0, .row id (xs.length + i)), (9, i64 i)]) (fun i => ⟨σ.rows.set id (some ⟨xs ++ bytes ((beN w n).take i), 5, 1⟩), σ.boxes, σ.maps⟩) [7, 10, 11, 12, 13, 14, 15, 16, 17, 18, 19, 20, 21, 22, 23] ?_ (by rw [List.take_zero, bytes_nil, List.append_nil, set_same hR]) (fun i hi => ?_)
 ·exact le1
 have hl : (bytes ((beN w n).take i)).length = i := by rw [bytes_len, List.length_take, beN_len]; omega
 by_cases hi' : i < w
 ·have hf := beN_take_succ w n i hi'
  repeat' (first | (show Ev _ _ _ _; first | refine Ev_seq ?_ | refine W_reg ?_ | refine Ev_block ?_ | refine W_ifY ?_ | refine Ev_skip ?_) | (show EvD _ _ [] _ _ _; refine W_nil ?_) | (show EvD _ _ (_ :: _) _ _ _; first | refine W_run tok ?_ ?_ (by simp (maxSteps := 1000000) (disch := omega) only [go_sem, wrap_i64_id, gs, List.set_set, hl]; with_reducible exact rfl)) | refine Q_thenN ?_ | refine Q_blkN ?_ | fail)
  all_goals (try exact sd)
  all_goals (try refine F_done ?_)
  refine Q_rndN ?_ (by omega) ?_
  rotate_left
  ·rw [shr_byte (k := w - 1 - i) (by omega) (by omega), hf, bytes_append]; rfl
  repeat (first | exact LeL.nil | refine LeL.cons2 ?_ (Le.undef _) | refine LeL.cons2 ?_ (Le.refl _) | refine LeL.cons2 ?_ (Le.sl _) | refine LeL.cons2 ?_ (Le.eq (by first | rfl | exact congrArg _ (by omega))) | refine LeL.cons2 ?_ (Le.eq ?_))
 ·obtain rfl : i = w := by omega
  repeat' (first | (show Ev _ _ _ _; first | refine Ev_seq ?_ | refine W_reg ?_ | refine W_ifN ?_ | refine Ev_exit ?_ | refine Ev_ret ?_) | (show EvD _ _ [] _ _ _; refine W_nil ?_) | (show EvD _ _ (_ :: _) _ _ _; first | refine W_run tok ?_ ?_ (by simp (maxSteps := 1000000) (disch := omega) only [go_sem, wrap_i64_id]; with_reducible exact rfl)) | refine Q_thenN ?_ | refine Q_thenE ?_ | refine Q_blkE ?_ | refine Q_rndE ?_ | fail)
  all_goals (try exact sd)
  all_goals (try refine F_done ?_)
  have ht : (beN i n).take i = beN i n := List.take_of_length_le (by rw [beN_len]; omega)
  rw [ht]
  refine R_app rfl ?_ (by rw [bytes_len, beN_len]) (fun ws h => h ▸ Grew_refl _)
  exact trivial
instance i_frame_lay (n w : Int) : ConApp Try.prog n_frame_lay [.int .i64 n, .int .i64 w] (0 ≤ n ∧ n < 9223372036854775808 ∧ 0 ≤ w ∧ w ≤ 8) (bytes (beN w.toNat n.toNat)) 5 1 1099511627776 :=
 ⟨fun h => by
  have := c_frame_lay n.toNat w.toNat (by omega)
  rwa [show ((n.toNat : Nat) : Int) = n by omega, show ((w.toNat : Nat) : Int) = w by omega] at this⟩
end Go.Val.Ytlfnmgmbmgacgaa
