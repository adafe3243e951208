/- Chapter 05, frames laid down, walked. -/
import Derived.Test.YtlfnmgmbmgacgaaE05a
namespace Go.Val.Ytlfnmgmbmgacgaa
open Go Go.Val Go.Proofs Go.Proofs.Ytlfnmgmbmgacgaa
attribute [local irreducible] Ev EvD EvC thenQ blockQ RoundG RetQ
set_option maxRecDepth 100000
set_option maxHeartbeats 4000000
set_option linter.unusedSimpArgs false
set_option linter.unusedVariables false
def rawF (s : Nat) (d : List UInt8) : List UInt8 := [98, 117, 114, 115] ++ beN 6 s ++ beN 2 d.length ++ beN 4 (crcSum d).toNat ++ d
def layF (s : Int) (d : List UInt8) : List UInt8 := sealD (rawF s.toNat d) ++ List.replicate (64 * ((d.length + 83) / 64) - (20 + d.length)) 0
theorem rawF_len (s : Nat) (d : List UInt8) : (rawF s d).length = 16 + d.length := by simp [rawF, beN_len]; omega
theorem sealD_len (b : List UInt8) : (sealD b).length = b.length + 4 := by simp [sealD, sumD]
theorem layF_len (s : Int) (d : List UInt8) : (layF s d).length = 64 * ((d.length + 83) / 64) := by
 rw [layF, List.length_append, sealD_len, rawF_len, List.length_replicate]; omega
theorem c_frame_Lay (s : Int) (d : List UInt8) (hC : d.length < 1099511627776) : Pure Try.prog n_frame_Lay [frameD s d] (.tup [.sl (bytes (if mayF s d then layF s d else [])), .int .i64 (if mayF s d then 0 else 1)]) := by
 refine Pure.go tok (rs := [.tmp 2, .tmp 3]) [frameD s d, .undef, .undef, .undef, .undef, .undef, .undef, .undef, .undef, .undef, .undef, .undef, .undef, .undef, .undef, .undef, .undef, .undef, .undef, .undef, .undef, .undef, .undef, .undef, .undef, .undef, .undef, .undef, .undef, .undef, .undef, .undef, .undef, .undef, .undef, .undef, .undef, .undef, .undef] Try.func29 (fun σ => ?_)
 by_cases hm : mayF s d
 ·have hm' := hm
  obtain ⟨h1, h2, h3⟩ := hm'
  have hc := (crcSum d).isLt
  have hq : secI (d.length : Int) = (((d.length + 83) / 64 : Nat) : Int) := by unfold secI; rw [if_pos (by omega)]; rfl
  have hr := rawF_len s.toNat d
  have hl : (sealD (rawF s.toNat d)).length = 20 + d.length := by rw [sealD_len]; omega
  have hR : (98 :: 117 :: 114 :: 115 :: (beN 6 s.toNat ++ (beN 2 d.length ++ (beN 4 (crcSum d).toNat ++ d)))) = rawF s.toNat d := by simp [rawF]
  repeat' (first | (show Ev _ (.region _ _ true) _ _; refine D_start [9, 49, 51, 54, 65, 68] mix ?_) | (show DrD _ _ _ [] _ _ _ _; refine D_nil ?_; try dsimp only) | (show DrD _ (EB _ _) _ (_ :: _) _ _ _ _; first | refine D_runL tok ?_ ?_ (h := by intro R; simp (maxSteps := 1000000) (disch := omega) only [go_sem, wrap_i64_id, hq, (if_pos hm)]; with_reducible exact rfl)) | (show DrD _ _ _ (_ :: _) _ _ _ _; first | refine D_con ?_ ?_ | refine D_app ?_ ?_ ?_) | (show Ev _ _ _ _; first | refine Ev_seq ?_ | refine W_reg ?_ | refine W_ifN ?_ | refine Ev_skip ?_ | refine Ev_ret ?_) | (show EvD _ _ [] _ _ _; refine W_nil ?_) | (show EvD _ _ (⟨some _, .buildSlice _ _ _, _, _, _, none⟩ :: ⟨some _, .convert _ _ (.tmp _), _, _, _, none⟩ :: _) _ _ _; refine W_lit tok ?_ ?_) | (show EvD _ _ (_ :: _) _ _ _; first | refine W_run tok ?_ ?_ (by simp (maxSteps := 1000000) (disch := omega) only [go_sem, wrap_i64_id, hq, (if_pos hm)]; with_reducible exact rfl) | refine W_callee ?_) | (show EvC _ _ _ _ _ _ _ _ _; first | refine W_con ?_ ?_ | refine W_conOwn ?_ ?_ | refine W_conApp ?_ ?_ ?_ | refine W_frzArg ?_) | (show RetQ _ _ (RP _ _) _ _; refine R_ret ?_ ?_) | (show FrzTo _ _ _ _; refine F_row ?_) | refine Q_thenN ?_ | fail)
  all_goals (try exact sd)
  all_goals (try refine F_done ?_)
  ·rw [if_pos hm, if_pos hm, hR, hl, wrap_i64_id (by omega) (by omega), layF]
   congr 6
   omega
  ·rw [hR, hl, wrap_i64_id (by omega) (by omega)]
   omega
 ·repeat' (first | (show Ev _ _ _ _; first | refine Ev_seq ?_ | refine W_reg ?_ | refine W_ifY ?_ | refine Ev_ret ?_) | (show EvD _ _ [] _ _ _; refine W_nil ?_) | (show EvD _ _ (_ :: _) _ _ _; first | refine W_run tok ?_ ?_ (by simp (maxSteps := 1000000) (disch := omega) only [go_sem, wrap_i64_id, (if_neg hm)]; with_reducible exact rfl) | refine W_callee ?_) | (show EvC _ _ _ _ _ _ _ _ _; refine W_con ?_ ?_) | (show RetQ _ _ (RP _ _) _ _; refine R_ret ?_ ?_) | (show FrzTo _ _ _ _; refine F_weak ?_) | refine Q_thenN ?_ | refine Q_thenR ?_ | fail)
  all_goals (try exact sd)
  all_goals (try refine F_done ?_)
  simp only [if_neg hm, bytes_nil]
instance i_frame_Lay (s : Int) (d : List UInt8) : Con Try.prog 29 [frameD s d] (d.length < 1099511627776) (.tup [.sl (bytes (if mayF s d then layF s d else [])), .int .i64 (if mayF s d then 0 else 1)]) := ⟨c_frame_Lay s  d ⟩
theorem c_bursarref05_Lay (s : Int) (d : List UInt8) (hC : mayF s d) : Pure Try.prog n_bursarref05_Lay [frameD s d] (.str (layF s d)) := by
 refine Pure.go tok (rs := [.tmp 2]) [frameD s d, .undef, .undef, .undef, .undef, .undef, .undef, .undef, .undef, .undef, .undef, .undef, .undef, .undef, .undef, .undef, .undef, .undef, .undef, .undef, .undef, .undef, .undef, .undef, .undef, .undef, .undef, .undef, .undef, .undef, .undef, .undef, .undef] Try.func20 (fun σ => ?_)
 obtain ⟨h1, h2, h3⟩ := hC
 have hc := (crcSum d).isLt
 have hr := rawF_len s.toNat d
 have hl : (sealD (rawF s.toNat d)).length = 20 + d.length := by rw [sealD_len]; omega
 have hR : (98 :: 117 :: 114 :: 115 :: (beN 6 s.toNat ++ (beN 2 d.length ++ (beN 4 (crcSum d).toNat ++ d)))) = rawF s.toNat d := by simp [rawF]
 have hs : IntKind.u64.wrap s = (s.toNat : Int) := by rw [wrap_u64_id (by omega) (by omega)]; omega
 have hn : IntKind.u64.wrap (d.length : Int) = (d.length : Int) := wrap_u64_id (by omega) (by omega)
 have hv : IntKind.u64.wrap ((crcSum d).toNat : Int) = ((crcSum d).toNat : Int) := wrap_u64_id (by omega) (by omega)
 repeat' (first | (show Ev _ _ _ _; first | refine Ev_seq ?_ | refine W_reg ?_ | refine Ev_block ?_) | (show EvD _ _ [] _ _ _; refine W_nil ?_) | (show EvD _ _ (_ :: _) _ _ _; first | refine W_run tok ?_ ?_ (by simp (maxSteps := 1000000) (disch := omega) only [go_sem, hs, hn, hv, hR]; with_reducible exact rfl) | refine W_callee ?_) | (show EvC _ _ _ _ _ _ _ _ _; refine W_con ?_ ?_) | refine Q_thenN ?_ | fail)
 all_goals (try exact sd)
 all_goals (try refine F_done ?_)
 obtain ⟨k, hk⟩ : ∃ k, k = 64 * ((d.length + 83) / 64) - (20 + d.length) := ⟨_, rfl⟩
 generalize hP : sealD (rawF s.toNat d) = P at hl ⊢
 refine Ev_lp (k) (fun i => [(4, .str (P ++ List.replicate i 0))]) (fun i => _) [26, 27, 28, 29, 30, 31] ?_ (by first | rfl | (simp only [List.take_zero, List.append_nil]; done)) (fun i hi => ?_)
 ·exact le1
 have ht : Int.tmod ((20 + d.length + i : Nat) : Int) 64 = (((20 + d.length + i) % 64 : Nat) : Int) := tmod_nat _ 64
 have hL : (P ++ List.replicate i (0 : UInt8)).length = 20 + d.length + i := by rw [List.length_append, hl, List.length_replicate]
 by_cases hi' : i < k
 ·have hne : (20 + d.length + i) % 64 ≠ 0 := by omega
  repeat' (first | (show Ev _ _ _ _; first | refine Ev_seq ?_ | refine W_reg ?_ | refine Ev_block ?_ | refine W_ifY ?_ | refine Ev_skip ?_) | (show EvD _ _ [] _ _ _; refine W_nil ?_) | (show EvD _ _ (_ :: _) _ _ _; first | refine W_run tok ?_ ?_ (by simp (maxSteps := 1000000) (disch := omega) only [go_sem, hL, ht, wrap_i64_id]; with_reducible exact rfl)) | refine Q_thenN ?_ | refine Q_blkN ?_ | fail)
  all_goals (try exact sd)
  all_goals (try refine F_done ?_)
  refine Q_rndN ?_ (by omega) ?_
  rotate_left
  ·rfl
  repeat (first | exact LeL.nil | refine LeL.cons2 ?_ (Le.undef _) | refine LeL.cons2 ?_ (Le.refl _) | refine LeL.cons2 ?_ (Le.sl _) | refine LeL.cons2 ?_ (Le.eq (by first | rfl | exact congrArg _ (by omega))) | refine LeL.cons2 ?_ (Le.eq ?_))
  rw [List.replicate_succ']
 ·obtain rfl : i = k := by omega
  have hne : (20 + d.length + i) % 64 = 0 := by omega
  repeat' (first | (show Ev _ _ _ _; first | refine Ev_seq ?_ | refine W_reg ?_ | refine W_ifF ?_ | refine Ev_exit ?_ | refine Ev_ret ?_) | (show EvD _ _ [] _ _ _; refine W_nil ?_) | (show EvD _ _ (_ :: _) _ _ _; first | refine W_run tok ?_ ?_ (by simp (maxSteps := 1000000) (disch := omega) only [go_sem, hL, ht, wrap_i64_id, hne]; with_reducible exact rfl)) | (show RetQ _ _ (RP _ _) _ _; refine R_ret ?_ ?_) | refine Q_thenN ?_ | refine Q_thenE ?_ | refine Q_blkE ?_ | refine Q_rndE ?_ | fail)
  all_goals (try exact sd)
  all_goals (try refine F_done ?_)
  rw [layF, hP, hk]
instance i_bursarref05_Lay (s : Int) (d : List UInt8) : Con Try.prog 20 [frameD s d] (mayF s d) (.str (layF s d)) := ⟨c_bursarref05_Lay s  d ⟩
end Go.Val.Ytlfnmgmbmgacgaa
