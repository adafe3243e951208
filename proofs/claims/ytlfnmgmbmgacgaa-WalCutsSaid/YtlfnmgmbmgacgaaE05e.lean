/- Chapter 05, the document's reading of frames, walked. -/
import Derived.Test.YtlfnmgmbmgacgaaE05d
namespace Go.Val.Ytlfnmgmbmgacgaa
open Go Go.Val Go.Proofs Go.Proofs.Ytlfnmgmbmgacgaa
attribute [local irreducible] Ev EvD EvC thenQ blockQ RoundG RetQ
set_option maxRecDepth 100000
set_option maxHeartbeats 4000000
set_option linter.unusedSimpArgs false
set_option linter.unusedVariables false
theorem take_split {α : Type} (b : List α) {i j : Nat} (h : i ≤ j) : b.take j = b.take i ++ (b.take j).drop i := by
 have := List.take_append_drop i (b.take j)
 rw [List.take_take, Nat.min_eq_left h] at this
 exact this.symm
theorem pieces {α : Type} (b : List α) (n : Nat) : b.take (16 + n) = b.take 4 ++ ((b.take 10).drop 4 ++ ((b.take 12).drop 10 ++ ((b.take 16).drop 12 ++ (b.take (16 + n)).drop 16))) := by
 have h1 := take_split b (i := 16) (j := 16 + n) (by omega)
 have h2 := take_split b (i := 12) (j := 16) (by omega)
 have h3 := take_split b (i := 10) (j := 12) (by omega)
 have h4 := take_split b (i := 4) (j := 10) (by omega)
 conv => lhs; rw [h1, h2, h3, h4]
 simp only [List.append_assoc]
theorem raw_of {b : List UInt8} (he : hdE b = 0) (hL : 16 + hdN b ≤ b.length) :
  rawF (hdS b) (rdData b) = b.take 4 ++ ((b.take 10).drop 4 ++ ((b.take 12).drop 10 ++ (beN 4 (crcSum (rdData b)).toNat ++ (b.take (16 + hdN b)).drop 16))) := by
 obtain ⟨h16, hn, hs, hm, e1, e2⟩ := hd_ok he
 have l1 : ((b.take 10).drop 4).length = 6 := by rw [List.length_drop, List.length_take]; omega
 have l2 : ((b.take 12).drop 10).length = 2 := by rw [List.length_drop, List.length_take]; omega
 have b1 := beN_numN ((b.take 10).drop 4)
 have b2 := beN_numN ((b.take 12).drop 10)
 rw [l1, ← e1] at b1
 rw [l2, ← e2] at b2
 have hdl : (rdData b).length = hdN b := by unfold rdData; rw [List.length_drop, List.length_take]; omega
 unfold rawF
 rw [hdl, b1, b2, hm]
 simp only [List.append_assoc]
 rfl
theorem seal_iff {b : List UInt8} (he : hdE b = 0) (hL : 20 + hdN b ≤ b.length) :
  sealD (rawF (hdS b) (rdData b)) = b.take (20 + hdN b) ↔ (openD (b.take (20 + hdN b))).2 = 0 ∧ numN ((b.take 16).drop 12) = (crcSum (rdData b)).toNat := by
 have hr := raw_of he (by omega)
 have hp := pieces b (hdN b)
 have hdd : (b.take (16 + hdN b)).drop 16 = rdData b := rfl
 rw [hdd] at hr hp
 have l4 : ((b.take 16).drop 12).length = 4 := by rw [List.length_drop, List.length_take]; omega
 have b4 := beN_numN ((b.take 16).drop 12)
 rw [l4] at b4
 have hl : (b.take (20 + hdN b)).length = 20 + hdN b := by rw [List.length_take]; omega
 have ht : (b.take (20 + hdN b)).take (20 + hdN b - 4) = b.take (16 + hdN b) := by rw [List.take_take]; congr 1; omega
 have hrl := rawF_len (hdS b) (rdData b)
 have hdl : (rdData b).length = hdN b := by unfold rdData; rw [List.length_drop, List.length_take]; omega
 constructor
 ·intro h
  refine ⟨by rw [← h, open_seal], ?_⟩
  have h2 : rawF (hdS b) (rdData b) = b.take (16 + hdN b) := by
   have := congrArg (List.take (16 + hdN b)) h
   rw [List.take_take, Nat.min_eq_left (by omega), sealD, List.take_append_of_le_length (by omega), List.take_of_length_le (by omega)] at this
   exact this
  rw [hr, hp] at h2
  have h3 := List.append_cancel_left h2
  have h4 := List.append_cancel_left h3
  have h5 := List.append_cancel_left h4
  have h6 := List.append_cancel_right h5
  rw [← h6, numN_beN, Nat.mod_eq_of_lt (crcSum (rdData b)).isLt]
 ·rintro ⟨h1, h2⟩
  have h3 : rawF (hdS b) (rdData b) = b.take (16 + hdN b) := by
   rw [hr, hp, ← h2, b4]
  have h4 := (openD_iff (b.take (20 + hdN b)) (by omega)).2 (by
   unfold openD at h1
   rw [if_neg (by omega)] at h1
   split at h1
   ·assumption
   ·cases h1)
  rw [hl, ht] at h4
  rw [h3, h4]
theorem lay_iff {b : List UInt8} (he : hdE b = 0) (hL : rdSz b ≤ b.length) (hs : sealD (rawF (hdS b) (rdData b)) = b.take (20 + hdN b)) :
  layF (hdS b) (rdData b) = b.take (rdSz b) ↔ rdAny b = false := by
 obtain ⟨h16, hn, -⟩ := hd_ok he
 have hz : rdSz b = 64 * ((hdN b + 83) / 64) := rfl
 have hdl : (rdData b).length = hdN b := by unfold rdData; rw [List.length_drop, List.length_take]; omega
 have hsp := take_split b (i := 20 + hdN b) (j := rdSz b) (by omega)
 have hlen : ((b.take (rdSz b)).drop (20 + hdN b)).length = rdSz b - (20 + hdN b) := by rw [List.length_drop, List.length_take]; omega
 unfold layF rdAny
 rw [Int.toNat_natCast, hs, hdl, ← hz, hsp]
 rw [show (b.take (20 + hdN b) ++ (b.take (rdSz b)).drop (20 + hdN b)).drop (20 + hdN b) = (b.take (rdSz b)).drop (20 + hdN b) from by rw [← hsp]]
 rw [List.append_cancel_left_eq]
 rw [List.any_eq_false]
 constructor
 ·intro h c hc
  rw [← h] at hc
  have := List.eq_of_mem_replicate hc
  simp [this]
 ·intro h
  refine (List.eq_replicate_iff.2 ⟨hlen, fun c hc => ?_⟩).symm
  have := h c hc
  simpa using this
theorem lay_take {b : List UInt8} (he : hdE b = 0) (hL : 20 + hdN b ≤ b.length) : (layF (hdS b) (rdData b)).take (20 + hdN b) = sealD (rawF (hdS b) (rdData b)) := by
 have hdl : (rdData b).length = hdN b := by unfold rdData; rw [List.length_drop, List.length_take]; omega
 have hl : (sealD (rawF (hdS b) (rdData b))).length = 20 + hdN b := by rw [sealD_len, rawF_len]; omega
 unfold layF
 rw [Int.toNat_natCast, List.take_append_of_le_length (by omega), List.take_of_length_le (by omega)]
theorem c_bursarref05_Read (b : List UInt8) (hC : b.length < 1099511627776) : Pure Try.prog n_bursarref05_Read [.str b] (.tup [frameD (rdS b) (rdD b), .int .i64 (rdN b), .int .i64 (rdE b)]) := by
 refine Pure.go tok (rs := [.cell 2 46, .tmp 3, .tmp 4]) [.str b, .undef, .undef, .undef, .undef, .undef, .undef, .undef, .undef, .undef, .undef, .undef, .undef, .undef, .undef, .undef, .undef, .undef, .undef, .undef, .undef, .undef, .undef, .undef, .undef, .undef, .undef, .undef, .undef, .undef, .undef, .undef, .undef, .undef, .undef, .undef, .undef, .undef, .undef, .undef, .undef, .undef, .undef, .undef, .undef, .undef, .undef, .undef, .undef, .undef, .undef, .undef, .undef, .undef, .undef, .undef, .undef, .undef, .undef] Try.func44 (fun σ => ?_)
 by_cases he : hdE b = 0
 ·obtain ⟨h16, hn, hs, hm, -, -⟩ := hd_ok he
  have hs6 : hdS b < 281474976710656 := by unfold hdS; rw [if_pos he]; exact numN_le (k := 6) (by rw [List.length_drop, List.length_take]; omega)
  have hz : rdSz b = 64 * ((hdN b + 83) / 64) := rfl
  have t1 : (16 + (hdN b : Int)).toNat = 16 + hdN b := by omega
  have t2 : (20 + (hdN b : Int)).toNat = 20 + hdN b := by omega
  obtain ⟨k, hk⟩ : ∃ k, k = (hdN b + 83) / 64 - 1 := ⟨_, rfl⟩
  repeat' (first | (show Ev _ _ _ _; first | refine Ev_seq ?_ | refine W_reg ?_ | refine Ev_block ?_ | refine W_ifF ?_ | refine Ev_skip ?_) | (show EvD _ _ [] _ _ _; refine W_nil ?_) | (show EvD _ _ (_ :: _) _ _ _; first | refine W_run tok ?_ ?_ (by simp (maxSteps := 1000000) (disch := omega) only [go_sem, he]; with_reducible exact rfl) | refine W_callee ?_) | (show EvC _ _ _ _ _ _ _ _ _; refine W_con ?_ ?_) | refine Q_thenN ?_ | fail)
  all_goals (try exact sd)
  all_goals (try refine F_done ?_)
  refine Ev_lp (k) (fun i => [(8, .int .i64 ((64 + 64 * i : Nat) : Int))]) (fun i => _) [21, 22, 23, 24, 25, 26] ?_ (by first | rfl | (simp only [List.take_zero, List.append_nil]; done)) (fun i hi => ?_)
  ·exact le1
  by_cases hi' : i < k
  ·repeat' (first | (show Ev _ _ _ _; first | refine Ev_seq ?_ | refine W_reg ?_ | refine Ev_block ?_ | refine W_ifY ?_ | refine Ev_skip ?_) | (show EvD _ _ [] _ _ _; refine W_nil ?_) | (show EvD _ _ (_ :: _) _ _ _; first | refine W_run tok ?_ ?_ (by simp (maxSteps := 1000000) (disch := omega) only [go_sem, wrap_i64_id]; with_reducible exact rfl)) | refine Q_thenN ?_ | refine Q_blkN ?_ | fail)
   all_goals (try exact sd)
   all_goals (try refine F_done ?_)
   refine Q_rndN ?_ (by omega) ?_
   rotate_left
   ·rfl
   repeat (first | exact LeL.nil | refine LeL.cons2 ?_ (Le.undef _) | refine LeL.cons2 ?_ (Le.refl _) | refine LeL.cons2 ?_ (Le.sl _) | refine LeL.cons2 ?_ (Le.eq (by first | rfl | exact congrArg _ (by omega))) | refine LeL.cons2 ?_ (Le.eq ?_))
  ·obtain rfl : i = k := by omega
   have hzz : 64 + 64 * i = rdSz b := by omega
   rw [hzz]
   by_cases hL : b.length < rdSz b
   ·have hr : rdE b = 3 := by unfold rdE; rw [if_neg (by omega), if_pos hL]
    repeat' (first | (show Ev _ _ _ _; first | refine Ev_seq ?_ | refine W_reg ?_ | refine W_ifY ?_ | refine W_ifN ?_ | refine Ev_exit ?_ | refine Ev_ret ?_) | (show EvD _ _ [] _ _ _; refine W_nil ?_) | (show EvD _ _ (_ :: _) _ _ _; first | refine W_run tok ?_ ?_ (by simp (maxSteps := 1000000) (disch := omega) only [go_sem, wrap_i64_id, he]; with_reducible exact rfl)) | (show RetQ _ _ (RP _ _) _ _; refine R_ret ?_ ?_) | (show FrzTo _ _ _ _; refine F_weak ?_) | refine Q_thenN ?_ | refine Q_thenE ?_ | refine Q_thenR ?_ | refine Q_blkE ?_ | refine Q_rndE ?_ | fail)
    all_goals (try exact sd)
    all_goals (try refine F_done ?_)
    all_goals (simp [rdS, rdD, rdN, hr, bytes_nil])
   ·have hlb : (b.take (16 + hdN b)).length = 16 + hdN b := by rw [List.length_take]; omega
    have hdt : (b.take (16 + hdN b)).drop 16 = rdData b := rfl
    have hdl : (rdData b).length = hdN b := by unfold rdData; rw [List.length_drop, hlb]; omega
    have hmay : mayF (hdS b) (rdData b) := ⟨by omega, by omega, by omega⟩
    have hll := layF_len (hdS b) (rdData b)
    have hlt := lay_take he (by omega)
    by_cases hS : sealD (rawF (hdS b) (rdData b)) = b.take (20 + hdN b)
    ·by_cases hA : layF (hdS b) (rdData b) = b.take (rdSz b)
     ·have hr : rdE b = 0 := by
       unfold rdE
       have h1 := (seal_iff he (by omega)).1 hS
       rw [if_neg (by omega), if_neg hL, if_neg (by rintro (h | h); exact h h1.1; exact h h1.2), if_neg (by rw [(lay_iff he (by omega) hS).1 hA]; decide)]
      have hTT : (b.take (rdSz b)).take (20 + hdN b) = b.take (20 + hdN b) := by rw [List.take_take, Nat.min_eq_left (by omega)]
      repeat' (first | (show Ev _ (.region _ _ true) _ _; refine D_start [9, 49, 51, 54, 65, 68] mix ?_) | (show DrD _ _ _ [] _ _ _ _; refine D_nil ?_; try dsimp only) | (show DrD _ (EB _ _) _ (_ :: _) _ _ _ _; first | refine D_runL tok ?_ ?_ (h := by intro R; simp (maxSteps := 1000000) (disch := omega) only [go_sem, wrap_i64_id, he, t1, t2, hdt, hlt, hS, hA, hTT]; with_reducible exact rfl)) | (show Ev _ _ _ _; first | refine Ev_seq ?_ | refine W_reg ?_ | refine W_ifF ?_ | refine W_ifN ?_ | refine Ev_skip ?_ | refine Ev_exit ?_ | refine Ev_ret ?_) | (show EvD _ _ [] _ _ _; refine W_nil ?_) | (show EvD _ _ (_ :: _) _ _ _; first | refine W_run tok ?_ ?_ (by simp (maxSteps := 1000000) (disch := omega) only [go_sem, wrap_i64_id, he, t1, t2, hdt, hlt, hS, hA, hTT]; with_reducible exact rfl) | refine W_callee ?_) | (show EvC _ _ _ _ _ _ _ _ _; refine W_con ?_ ?_) | (show RetQ _ _ (RP _ _) _ _; refine R_ret ?_ ?_) | refine Q_thenN ?_ | refine Q_thenE ?_ | refine Q_blkE ?_ | refine Q_rndE ?_ | fail)
      all_goals (try exact sd)
      all_goals (try refine F_done ?_)
      all_goals (simp [rdS, rdD, rdN, hr, bytes_nil])
     ·have hr : rdE b = 4 := by
       unfold rdE
       have h1 := (seal_iff he (by omega)).1 hS
       rw [if_neg (by omega), if_neg hL, if_neg (by rintro (h | h); exact h h1.1; exact h h1.2), if_pos (by cases ha : rdAny b with | true => rfl | false => exact absurd ((lay_iff he (by omega) hS).2 ha) hA)]
      repeat' (first | (show Ev _ (.region _ _ true) _ _; refine D_start [9, 49, 51, 54, 65, 68] mix ?_) | (show DrD _ _ _ [] _ _ _ _; refine D_nil ?_; try dsimp only) | (show DrD _ (EB _ _) _ (_ :: _) _ _ _ _; first | refine D_runL tok ?_ ?_ (h := by intro R; simp (maxSteps := 1000000) (disch := omega) only [go_sem, wrap_i64_id, he, t1, t2, hdt, hlt, hS]; with_reducible exact rfl)) | (show Ev _ _ _ _; first | refine Ev_seq ?_ | refine W_reg ?_ | refine W_ifF ?_ | refine W_ifY ?_ | refine W_ifN ?_ | refine Ev_skip ?_ | refine Ev_exit ?_ | refine Ev_ret ?_) | (show EvD _ _ [] _ _ _; refine W_nil ?_) | (show EvD _ _ (_ :: _) _ _ _; first | refine W_run tok ?_ ?_ (by simp (maxSteps := 1000000) (disch := omega) only [go_sem, wrap_i64_id, he, t1, t2, hdt, hlt, hS]; with_reducible exact rfl) | refine W_callee ?_) | (show EvC _ _ _ _ _ _ _ _ _; refine W_con ?_ ?_) | (show RetQ _ _ (RP _ _) _ _; refine R_ret ?_ ?_) | (show FrzTo _ _ _ _; refine F_weak ?_) | refine Q_thenN ?_ | refine Q_thenE ?_ | refine Q_thenR ?_ | refine Q_blkE ?_ | refine Q_rndE ?_ | fail)
      all_goals (try exact sd)
      all_goals (try refine F_done ?_)
      all_goals (simp [rdS, rdD, rdN, hr, bytes_nil])
    ·have hr : rdE b = 6 := by
      unfold rdE
      rw [if_neg (by omega), if_neg hL, if_pos]
      by_cases h1 : (openD (b.take (20 + hdN b))).2 = 0
      ·exact .inr fun h2 => hS ((seal_iff he (by omega)).2 ⟨h1, h2⟩)
      ·exact .inl h1
     repeat' (first | (show Ev _ (.region _ _ true) _ _; refine D_start [9, 49, 51, 54, 65, 68] mix ?_) | (show DrD _ _ _ [] _ _ _ _; refine D_nil ?_; try dsimp only) | (show DrD _ (EB _ _) _ (_ :: _) _ _ _ _; first | refine D_runL tok ?_ ?_ (h := by intro R; simp (maxSteps := 1000000) (disch := omega) only [go_sem, wrap_i64_id, he, t1, t2, hdt, hlt]; with_reducible exact rfl)) | (show Ev _ _ _ _; first | refine Ev_seq ?_ | refine W_reg ?_ | refine W_ifY ?_ | refine W_ifN ?_ | refine Ev_skip ?_ | refine Ev_exit ?_ | refine Ev_ret ?_) | (show EvD _ _ [] _ _ _; refine W_nil ?_) | (show EvD _ _ (_ :: _) _ _ _; first | refine W_run tok ?_ ?_ (by simp (maxSteps := 1000000) (disch := omega) only [go_sem, wrap_i64_id, he, t1, t2, hdt, hlt]; with_reducible exact rfl) | refine W_callee ?_) | (show EvC _ _ _ _ _ _ _ _ _; refine W_con ?_ ?_) | (show RetQ _ _ (RP _ _) _ _; refine R_ret ?_ ?_) | (show FrzTo _ _ _ _; refine F_weak ?_) | refine Q_thenN ?_ | refine Q_thenE ?_ | refine Q_thenR ?_ | refine Q_blkE ?_ | refine Q_rndE ?_ | fail)
     all_goals (try exact sd)
     all_goals (try refine F_done ?_)
     all_goals (simp [rdS, rdD, rdN, hr, bytes_nil])
 ·have hr : rdE b = hdE b := by unfold rdE; rw [if_pos he]
  repeat' (first | (show Ev _ _ _ _; first | refine Ev_seq ?_ | refine W_reg ?_ | refine W_ifY ?_ | refine Ev_ret ?_) | (show EvD _ _ [] _ _ _; refine W_nil ?_) | (show EvD _ _ (_ :: _) _ _ _; first | refine W_run tok ?_ ?_ | refine W_callee ?_) | (show EvC _ _ _ _ _ _ _ _ _; refine W_con ?_ ?_) | (show RetQ _ _ (RP _ _) _ _; refine R_ret ?_ ?_) | (show FrzTo _ _ _ _; refine F_weak ?_) | refine Q_thenN ?_ | refine Q_thenR ?_ | fail)
  all_goals (try exact sd)
  all_goals (try refine F_done ?_)
  all_goals (simp [rdS, rdD, rdN, hr, he, bytes_nil])
instance i_bursarref05_Read (b : List UInt8) : Con Try.prog 44 [.str b] (b.length < 1099511627776) (.tup [frameD (rdS b) (rdD b), .int .i64 (rdN b), .int .i64 (rdE b)]) := ⟨c_bursarref05_Read b ⟩
end Go.Val.Ytlfnmgmbmgacgaa
