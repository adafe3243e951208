/- Chapter 09: the statement that what was laid is found, walked. -/
import Derived.Test.YtgjmpefhjdgkoaaN09w
namespace Go.Val.Ytgjmpefhjdgkoaa
open Go Go.Val Go.Proofs Go.Proofs.Ytgjmpefhjdgkoaa
attribute [local irreducible] Ev EvD EvC thenQ blockQ RoundG RetQ
set_option maxRecDepth 100000
set_option maxHeartbeats 4000000
set_option linter.unusedSimpArgs false
set_option linter.unusedVariables false
def hasK (P : List PairB) (k : List UInt8) (i : Nat) : Bool := !allN i (fun j => !decide (keyAt P j = k))
theorem hasK_succ (P : List PairB) (k : List UInt8) (i : Nat) : hasK P k (i + 1) = (hasK P k i || decide (keyAt P i = k)) := by
 unfold hasK allN
 rw [List.range_succ, List.all_append]
 simp
theorem c_bursarlaw09_TreeBack (P0 : List PairB) (o0 : List UInt8) (hC : (P0.length ≤ 140737488355328 ∧ lenP9 P0) ∧ o0.length ≤ 9223372036854775807) : Pure Try.prog n_bursarlaw09_TreeBack [.sl (pairsD P0), .str o0] (.bool true) := by
 refine Pure.go tok (rs := [.tmp 4]) [.sl (pairsD P0), .str o0, .undef, .undef, .undef, .undef, .undef, .undef, .undef, .undef, .undef, .undef, .undef, .undef, .undef, .undef, .undef, .undef, .undef, .undef, .undef, .undef, .undef, .undef, .undef, .undef, .undef, .undef, .undef, .undef, .undef, .undef, .undef, .undef, .undef, .undef, .undef, .undef, .undef, .undef, .undef, .undef, .undef, .undef, .undef, .undef, .undef, .undef, .undef, .undef, .undef, .undef, .undef, .undef, .undef, .undef, .undef, .undef, .undef, .undef, .undef, .undef, .undef, .undef, .undef, .undef, .undef, .undef, .undef, .undef, .undef, .undef, .undef, .undef, .undef, .undef, .undef, .undef, .undef, .undef, .undef, .undef, .undef, .undef, .undef, .undef, .undef, .undef, .undef, .undef, .undef, .undef, .undef, .undef, .undef, .undef, .undef, .undef, .undef, .undef, .undef, .undef, .undef, .undef, .undef, .undef, .undef, .undef, .undef, .undef, .undef, .undef, .undef, .undef, .undef, .undef, .undef, .undef, .undef, .undef, .undef, .undef, .undef, .undef, .undef, .undef, .undef, .undef, .undef, .undef, .undef] Try.func11 (fun σ => ?_)
 obtain ⟨hC0, ho0⟩ := hC
 have iF : Con Try.prog 12 [.sl (pairsD P0)] True (.sl (pairsD ((P0.take 120).map tp9))) := ⟨fun _ => c_bursarlaw09_few P0 hC0⟩
 have hP : ((P0.take 120).map tp9).length ≤ 120 := by simp; omega
 generalize (P0.take 120).map tp9 = P at iF hP
 have iO : Con Try.prog 35 [.str o0] True (.str (t70 o0)) := ⟨fun _ => c_bursarlaw09_text o0 ho0⟩
 generalize t70 o0 = o at iO
 have iB : Con Try.prog 13 [.sl (pairsD P)] True (.tup [.sl (nodesD (bldR P).1), .int .i64 (bldR P).2]) := ⟨fun _ => Pure_ans (c_tree_Build P (by omega)) (bldX_le P)⟩
 by_cases he : (bldR P).2 = 0
 ·obtain ⟨hm, hp, e1, hpo, hr, hl⟩ := bld_right (by omega) he
  have hsz := sizeT_bld (by omega) he
  rw [e1, he] at iB
  have i1 : Con Try.prog 39 [.sl (nodesD (bldT P))] True (.bool true) := ⟨fun _ => by
   have := c_tree_Right _ hsz
   rwa [hr] at this⟩
  have i2 : Con Try.prog 16 [.int .i64 (P.length : Int)] True (.int .i64 (pagesT P.length : Nat)) := ⟨fun _ => by
   have h := c_tree_Pages (P.length : Int) (by omega)
   rwa [Int.toNat_natCast] at h⟩
  have i3 : Con Try.prog 18 [.int .i64 (P.length : Int)] True (.int .i64 (depthT P.length : Nat)) := ⟨fun _ => by
   have h := c_tree_Depth (P.length : Int) (by omega)
   rwa [Int.toNat_natCast] at h⟩
  have i4 : ∀ k, Pure Try.prog 41 [.sl (nodesD (bldT P)), .str k] (.tup [.str (fndP P k).1, .int .i64 (depthT P.length : Nat), .int .i64 ((fndP P k).2 : Nat)]) := fun k => by
   have := c_tree_Find (bldT P) k hsz
   unfold fndT at this
   rwa [if_neg (by rw [hr]; simp), hpo] at this
  have i5 : Con Try.prog 36 [.sl (nodesD (bldT P)), .str [], .str []] True (.tup [.sl (pairsD P), .int .i64 0]) := ⟨fun _ => by
   have := c_tree_Range (bldT P) [] [] hsz
   unfold rngT at this
   rwa [if_neg (by rw [hr]; simp), hpo, rngP_all] at this⟩
  have i6 : Con Try.prog 37 [.sl (pairsD P), .sl (pairsD P)] True (.bool true) := ⟨fun _ => by
   have := c_bursarref09_SamePairs P P (by omega)
   rwa [decide_eq_true rfl] at this⟩
  have hsN := (nodesD_len (bldT P)).trans hl
  have hpN : pagesT P.length ≤ 200 := hp
  have hd9 : depthT P.length ≤ 5 := by have := rdC_le (nL P.length); unfold depthT; omega
  have hfa := fun i => @fndP_at P hm i
  have hin := fndP_in P o
  generalize bldT P = N at iB i1 i4 i5 hsN
  generalize pagesT P.length = pg at i2 hsN hpN
  generalize depthT P.length = dp at i3 i4 hd9
  have rp : decide ((pg : Int) = (pg : Int)) = true := decide_eq_true rfl
  have rd : decide ((dp : Int) = (dp : Int)) = true := decide_eq_true rfl
  have hsP := pairsD_len P
  repeat' (first | (show Ev _ _ _ _; first | refine Ev_seq ?_ | refine W_reg ?_ | refine Ev_block ?_ | refine W_ifF ?_ | refine Ev_skip ?_) | (show EvD _ _ [] _ _ _; refine W_nil ?_) | (show EvD _ _ (_ :: _) _ _ _; first | refine W_run tok ?_ ?_ (by simp (maxSteps := 1000000) (disch := omega) only [go_sem, wrap_i64_id, hsN, rp]; with_reducible exact rfl) | refine W_callee ?_) | (show EvC _ _ _ _ _ _ _ _ _; refine W_con ?_ ?_) | refine Q_thenN ?_ | fail)
  all_goals (try exact sd)
  all_goals (try refine F_done ?_)
  refine Ev_lp (P.length) (fun i => [(7, .bool (hasK P o i)), (8, i64 i)]) (fun i => σ) [4, 9, 10, 11, 45, 46, 47, 48, 49, 50, 51, 52, 53, 54, 55, 56, 57, 58, 59, 60, 61, 62, 63, 64, 65, 66, 67, 68, 69, 70, 71, 72, 73, 74, 75, 76, 77, 78, 79, 80, 81, 82, 83, 84, 85, 86, 87, 88, 89] ?_ (by first | rfl | (simp only [List.take_zero, List.append_nil]; done)) (fun i hi => ?_)
  ·exact le1
  by_cases hi' : i < P.length
  ·obtain ⟨k, v, hk, g1, hka⟩ := pget2 (P := P) (i := i) hi'
   have iFi : Con Try.prog 41 [.sl (nodesD N), .str k] True (.tup [.str v, .int .i64 dp, .int .i64 0]) := ⟨fun _ => by
    have := i4 k
    rw [← hka, hfa i hi', hk, hka] at this
    exact this⟩
   have hs := hasK_succ P o i
   rw [hka] at hs
   have rv : decide (v = v) = true := decide_eq_true rfl
   cases hh : hasK P o i
   ·rw [hh, Bool.false_or] at hs
    repeat' (first | (show Ev _ _ _ _; first | refine Ev_seq ?_ | refine W_reg ?_ | refine Ev_block ?_ | refine W_ifF ?_ | refine W_ifY ?_ | refine Ev_skip ?_) | (show EvD _ _ [] _ _ _; refine W_nil ?_) | (show EvD _ _ (_ :: _) _ _ _; first | refine W_run tok ?_ ?_ (by simp (maxSteps := 1000000) (disch := omega) only [go_sem, wrap_i64_id, g1, rv, rd]; with_reducible exact rfl) | refine W_callee ?_) | (show EvC _ _ _ _ _ _ _ _ _; refine W_con ?_ ?_) | refine Q_thenN ?_ | refine Q_blkN ?_ | fail)
    all_goals (try exact sd)
    all_goals (try refine F_done ?_)
    refine Q_rndN ?_ (by omega) ?_
    rotate_left
    ·rfl
    repeat (first | exact LeL.nil | refine LeL.cons2 ?_ (Le.undef _) | refine LeL.cons2 ?_ (Le.refl _) | refine LeL.cons2 ?_ (Le.sl _) | refine LeL.cons2 ?_ (Le.eq (by first | rfl | exact congrArg _ (by omega))) | refine LeL.cons2 ?_ (Le.eq ?_))
    all_goals first | rw [hs] | trace_state
   ·rw [hh, Bool.true_or] at hs
    repeat' (first | (show Ev _ _ _ _; first | refine Ev_seq ?_ | refine W_reg ?_ | refine Ev_block ?_ | refine W_ifF ?_ | refine W_ifY ?_ | refine Ev_skip ?_) | (show EvD _ _ [] _ _ _; refine W_nil ?_) | (show EvD _ _ (_ :: _) _ _ _; first | refine W_run tok ?_ ?_ (by simp (maxSteps := 1000000) (disch := omega) only [go_sem, wrap_i64_id, g1, rv, rd]; with_reducible exact rfl) | refine W_callee ?_) | (show EvC _ _ _ _ _ _ _ _ _; refine W_con ?_ ?_) | refine Q_thenN ?_ | refine Q_blkN ?_ | fail)
    all_goals (try exact sd)
    all_goals (try refine F_done ?_)
    refine Q_rndN ?_ (by omega) ?_
    rotate_left
    ·rfl
    repeat (first | exact LeL.nil | refine LeL.cons2 ?_ (Le.undef _) | refine LeL.cons2 ?_ (Le.refl _) | refine LeL.cons2 ?_ (Le.sl _) | refine LeL.cons2 ?_ (Le.eq (by first | rfl | exact congrArg _ (by omega))) | refine LeL.cons2 ?_ (Le.eq ?_))
    all_goals first | rw [hs] | trace_state
  ·obtain rfl : i = P.length := by omega
   have iFo : Con Try.prog 41 [.sl (nodesD N), .str o] True (.tup [.str (fndP P o).1, .int .i64 dp, .int .i64 ((fndP P o).2 : Nat)]) := ⟨fun _ => i4 o⟩
   generalize (fndP P o).1 = v at iFo
   cases ha : allN P.length (fun j => !decide (keyAt P j = o))
   ·have hh : hasK P o P.length = true := by unfold hasK; rw [ha]; rfl
    rw [ha, if_neg (by simp)] at hin
    rw [hin] at iFo
    rw [hh]
    repeat' (first | (show Ev _ _ _ _; first | refine Ev_seq ?_ | refine W_reg ?_ | refine W_ifF ?_ | refine W_ifN ?_ | refine Ev_skip ?_ | refine Ev_exit ?_ | refine Ev_ret ?_) | (show EvD _ _ [] _ _ _; refine W_nil ?_) | (show EvD _ _ (_ :: _) _ _ _; first | refine W_run tok ?_ ?_ (by simp (maxSteps := 1000000) (disch := omega) only [go_sem, wrap_i64_id, rd]; with_reducible exact rfl) | refine W_callee ?_) | (show EvC _ _ _ _ _ _ _ _ _; refine W_con ?_ ?_) | (show RetQ _ _ (RP _ _) _ _; refine R_ret ?_ ?_) | refine Q_thenN ?_ | refine Q_thenE ?_ | refine Q_blkE ?_ | refine Q_rndE ?_ | fail)
    all_goals (try exact sd)
    all_goals (try refine F_done ?_)
    all_goals first | rfl | trace_state
   ·have hh : hasK P o P.length = false := by unfold hasK; rw [ha]; rfl
    rw [ha, if_pos rfl] at hin
    rw [hin] at iFo
    rw [hh]
    repeat' (first | (show Ev _ _ _ _; first | refine Ev_seq ?_ | refine W_reg ?_ | refine W_ifT ?_ | refine W_ifF ?_ | refine W_ifN ?_ | refine Ev_skip ?_ | refine Ev_exit ?_ | refine Ev_ret ?_) | (show EvD _ _ [] _ _ _; refine W_nil ?_) | (show EvD _ _ (⟨_, _, _, _, _, some _⟩ :: _) _ _ _; refine W_grdB (fun h => ?_) (fun h => ?_)) | (show EvD _ _ (_ :: _) _ _ _; first | refine W_run tok ?_ ?_ (by simp (maxSteps := 1000000) (disch := omega) only [go_sem, wrap_i64_id, rd]; with_reducible exact rfl) | refine W_callee ?_) | (show EvC _ _ _ _ _ _ _ _ _; refine W_con ?_ ?_) | (show RetQ _ _ (RP _ _) _ _; refine R_ret ?_ ?_) | refine Q_thenN ?_ | refine Q_thenE ?_ | refine Q_thenR ?_ | refine Q_blkE ?_ | refine Q_rndE ?_ | fail)
    all_goals (try exact sd)
    all_goals (try refine F_done ?_)
    all_goals first | rfl | exact absurd h (by decide) | trace_state
 ·rw [bld_none he] at iB
  simp only [nodesD, List.map_nil] at iB
  have d0 : decide (((bldR P).2 : Int) = 0) = false := decide_eq_false (by omega)
  generalize (bldR P).2 = e at iB d0
  repeat' (first | (show Ev _ _ _ _; first | refine Ev_seq ?_ | refine W_reg ?_ | refine W_ifT ?_ | refine Ev_ret ?_) | (show EvD _ _ [] _ _ _; refine W_nil ?_) | (show EvD _ _ (_ :: _) _ _ _; first | refine W_run tok ?_ ?_ (by simp (maxSteps := 1000000) (disch := omega) only [go_sem, wrap_i64_id, d0]; with_reducible exact rfl) | refine W_callee ?_) | (show EvC _ _ _ _ _ _ _ _ _; refine W_con ?_ ?_) | (show RetQ _ _ (RP _ _) _ _; refine R_ret ?_ ?_) | refine Q_thenN ?_ | refine Q_thenR ?_ | fail)
  all_goals (try exact sd)
  all_goals (try refine F_done ?_)
  all_goals first | rfl | trace_state
instance i_bursarlaw09_TreeBack (P0 : List PairB) (o0 : List UInt8) : Con Try.prog 11 [.sl (pairsD P0), .str o0] ((P0.length ≤ 140737488355328 ∧ lenP9 P0) ∧ o0.length ≤ 9223372036854775807) (.bool true) := ⟨c_bursarlaw09_TreeBack P0  o0 ⟩
end Go.Val.Ytgjmpefhjdgkoaa
