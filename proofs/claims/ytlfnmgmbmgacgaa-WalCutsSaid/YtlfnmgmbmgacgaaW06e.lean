/- Chapter 06: what a log has next, and all that it has, walked. -/
import Derived.Test.YtlfnmgmbmgacgaaW06d
namespace Go.Val.Ytlfnmgmbmgacgaa
open Go Go.Val Go.Proofs Go.Proofs.Ytlfnmgmbmgacgaa
attribute [local irreducible] Ev EvD EvC thenQ blockQ RoundG RetQ
set_option maxRecDepth 100000
set_option maxHeartbeats 4000000
set_option linter.unusedSimpArgs false
set_option linter.unusedVariables false
def nb1 (S : List (List UInt8)) (W : List (Int × List UInt8)) (i : Int) : List UInt8 := readS S W i.toNat 1
def nq (S : List (List UInt8)) (W : List (Int × List UInt8)) (i : Int) : Int := secI (hdN (nb1 S W i))
def nb2 (S : List (List UInt8)) (W : List (Int × List UInt8)) (i : Int) : List UInt8 := readS S W i.toNat (nq S W i).toNat
def hdBad (S : List (List UInt8)) (W : List (Int × List UInt8)) (i l a n : Int) : Prop := hdE (nb1 S W i) ≠ 0 ∨ (hdS (nb1 S W i) : Int) ≠ n ∨ ¬ roomL l a (hdN (nb1 S W i))
instance (S : List (List UInt8)) (W : List (Int × List UInt8)) (i l a n : Int) : Decidable (hdBad S W i l a n) := by unfold hdBad; infer_instance
def nextR (S : List (List UInt8)) (W : List (Int × List UInt8)) (L : Int) (O : Bool) (f l a n : Int) : (Int × List UInt8) × Int × Int :=
 if readE S W L O (f + a) 1 ≠ 0 then ((0, []), 0, readE S W L O (f + a) 1) else
 if hdBad S W (f + a) l a n then ((0, []), 0, 0) else
 if readE S W L O (f + a) (nq S W (f + a)) ≠ 0 then ((0, []), 0, readE S W L O (f + a) (nq S W (f + a))) else
 if rdE (nb2 S W (f + a)) ≠ 0 then ((0, []), 0, 0) else ((rdS (nb2 S W (f + a)), rdD (nb2 S W (f + a))), (((hdN (nb2 S W (f + a)) + 83) / 64 : Nat) : Int), 0)
theorem rd_hd {b : List UInt8} (h : rdE b = 0) : hdE b = 0 := by
 unfold rdE at h
 split at h
 ·rename_i h1; exact absurd h h1
 ·rename_i h1; exact Classical.not_not.1 h1
theorem flatMap_le {α : Type} (g : Nat → List α) (m : Nat) : ∀ n, (∀ t, t < n → (g t).length ≤ m) → ((List.range n).flatMap g).length ≤ m * n
 | 0, _ => by simp
 | n + 1, h => by
  have ih := flatMap_le g m n (fun t ht => h t (by omega))
  rw [List.range_succ, List.flatMap_append, List.length_append]
  have := h n (by omega)
  simp only [List.flatMap_cons, List.flatMap_nil, List.append_nil]
  rw [Nat.mul_succ]; omega
theorem c_wal_next (S : List (List UInt8)) (W : List (Int × List UInt8)) (L : Int) (O : Bool) (f l a n : Int) (hC : szP S W ∧ l < 9223372036854775808 ∧ 0 ≤ f ∧ f ≤ 1099511627776 ∧ 0 ≤ a ∧ a ≤ 1099511627776) : Pure Try.prog n_wal_next [diskD S W L O, logD f l a n] (.tup [frameD (nextR S W L O f l a n).1.1 (nextR S W L O f l a n).1.2, .int .i64 (nextR S W L O f l a n).2.1, .int .i64 (nextR S W L O f l a n).2.2]) := by
 refine Pure.go tok (rs := [.cell 4 46, .tmp 5, .tmp 6]) [diskD S W L O, logD f l a n, .undef, .undef, .undef, .undef, .undef, .undef, .undef, .undef, .undef, .undef, .undef, .undef, .undef, .undef, .undef, .undef, .undef, .undef, .undef, .undef, .undef, .undef, .undef, .undef, .undef, .undef, .undef, .undef, .undef, .undef, .undef, .undef, .undef, .undef, .undef, .undef, .undef, .undef, .undef, .undef, .undef, .undef, .undef, .undef, .undef, .undef, .undef, .undef, .undef, .undef, .undef, .undef, .undef, .undef, .undef, .undef, .undef, .undef, .undef, .undef, .undef, .undef, .undef, .undef, .undef, .undef, .undef, .undef, .undef, .undef, .undef, .undef, .undef, .undef] Try.func42 (fun σ => ?_)
 obtain ⟨hz, hl, hf0, hf1, ha0, ha1⟩ := hC
 by_cases e1 : readE S W L O (f + a) 1 = 0
 ·have hr1 : mayP S W L ∧ (0 ≤ f + a ∧ f + a + 1 ≤ S.length) := by
   unfold readE at e1
   split at e1
   ·omega
   ·rename_i hm
    split at e1
    ·omega
    ·rename_i hr; exact ⟨Classical.not_not.1 hm, by omega⟩
  have hb1 : (nb1 S W (f + a)).length = 64 := by unfold nb1; rw [readS_len hr1.1 _ 1 (by omega)]
  have i1 : Con Try.prog 61 [diskD S W L O, .int .i64 (f + a), .int .i64 1] True (.tup [.sl (bytes (nb1 S W (f + a))), .int .i64 0]) := con_eq (i_disk_Read S W L O (f + a) 1) hz (by rw [e1, if_pos rfl]; rfl)
  have i2 := i_frame_Head (nb1 S W (f + a))
  by_cases hh : hdE (nb1 S W (f + a)) = 0
  ·by_cases hs : (hdS (nb1 S W (f + a)) : Int) = n
   ·by_cases hr : roomL l a (hdN (nb1 S W (f + a)))
    ·have hnb : ¬ hdBad S W (f + a) l a n := by rintro (h | h | h); exact h hh; exact h hs; exact h hr
     have hnn := secI_nn (hdN (nb1 S W (f + a)))
     have hq : secI (hdN (nb1 S W (f + a))) = nq S W (f + a) := rfl
     by_cases e2 : readE S W L O (f + a) (nq S W (f + a)) = 0
     ·have e2' : readE S W L O (f + a) (secI (hdN (nb1 S W (f + a)))) = 0 := e2
      have i3 : Con Try.prog 61 [diskD S W L O, .int .i64 (f + a), .int .i64 (secI (hdN (nb1 S W (f + a))))] True (.tup [.sl (bytes (nb2 S W (f + a))), .int .i64 0]) := con_eq (i_disk_Read S W L O (f + a) (secI (hdN (nb1 S W (f + a))))) hz (by rw [e2', if_pos rfl]; rfl)
      have hr2 : f + a + nq S W (f + a) ≤ S.length ∧ 0 ≤ nq S W (f + a) := by
       unfold readE at e2
       split at e2
       ·omega
       ·split at e2
        ·omega
        ·rename_i hr; omega
      have hb2 : (nb2 S W (f + a)).length ≤ 6400 := by unfold nb2; rw [readS_len hr1.1 _ _ (by omega)]; omega
      have hb2' : (nb2 S W (f + a)).length < 1099511627776 := by omega
      by_cases e3 : rdE (nb2 S W (f + a)) = 0
      ·have hR : nextR S W L O f l a n = ((rdS (nb2 S W (f + a)), rdD (nb2 S W (f + a))), (((hdN (nb2 S W (f + a)) + 83) / 64 : Nat) : Int), 0) := by unfold nextR; rw [if_neg (by simp [e1]), if_neg hnb, if_neg (by simp [e2]), if_neg (by simp [e3])]
       have hN : rdN (nb2 S W (f + a)) = ((64 * ((hdN (nb2 S W (f + a)) + 83) / 64) : Nat) : Int) := by unfold rdN; rw [if_pos e3]; rfl
       have hT : Int.tdiv ((64 * ((hdN (nb2 S W (f + a)) + 83) / 64) : Nat) : Int) 64 = (((hdN (nb2 S W (f + a)) + 83) / 64 : Nat) : Int) := by
        have h := tdiv_nat (64 * ((hdN (nb2 S W (f + a)) + 83) / 64)) 64
        rwa [show (64 * ((hdN (nb2 S W (f + a)) + 83) / 64)) / 64 = (hdN (nb2 S W (f + a)) + 83) / 64 by omega] at h
       have h6 := (hd_ok (rd_hd e3)).2.1
       rw [hR]
       have i4 : Con Try.prog 63 [.sl (bytes (nb2 S W (f + a)))] True (.tup [frameD (rdS (nb2 S W (f + a))) (rdD (nb2 S W (f + a))), .int .i64 ((64 * ((hdN (nb2 S W (f + a)) + 83) / 64) : Nat) : Int), .int .i64 0]) := con_eq (i_frame_Read _) hb2' (by rw [hN, e3])
       repeat' (first | (show Ev _ (.region _ _ true) _ _; refine D_start [9, 49, 51, 54, 65, 68] mix ?_) | (show DrD _ _ _ [] _ _ _ _; refine D_nil ?_; try dsimp only) | (show DrD _ (EB _ _) _ (_ :: _) _ _ _ _; first | refine D_runL tok ?_ ?_ (h := by intro R; simp (maxSteps := 1000000) (disch := omega) only [go_sem, wrap_i64_id, hh, hq, hT]; with_reducible exact rfl)) | (show DrD _ _ _ (_ :: _) _ _ _ _; refine D_con ?_ ?_) | (show Ev _ _ _ _; first | refine Ev_seq ?_ | refine W_reg ?_ | refine W_ifF ?_ | refine W_ifN ?_ | refine Ev_skip ?_ | refine Ev_ret ?_) | (show EvD _ _ [] _ _ _; refine W_nil ?_) | (show EvD _ _ (⟨_, _, _, _, _, some _⟩ :: _) _ _ _; refine W_grdN ?_) | (show EvD _ _ (_ :: _) _ _ _; first | refine W_run tok ?_ ?_ (by simp (maxSteps := 1000000) (disch := omega) only [go_sem, wrap_i64_id, hh, hq, hT]; with_reducible exact rfl) | refine W_callee ?_) | (show EvC _ _ _ _ _ _ _ _ _; refine W_con ?_ ?_) | (show RetQ _ _ (RP _ _) _ _; refine R_ret ?_ ?_) | refine Q_thenN ?_ | fail)
       all_goals (try exact sd)
       all_goals (try refine F_done ?_)
       all_goals rfl
      ·have hR : nextR S W L O f l a n = ((0, []), 0, 0) := by unfold nextR; rw [if_neg (by simp [e1]), if_neg hnb, if_neg (by simp [e2]), if_pos e3]
       rw [hR]
       repeat' (first | (show Ev _ (.region _ _ true) _ _; refine D_start [9, 49, 51, 54, 65, 68] mix ?_) | (show DrD _ _ _ [] _ _ _ _; refine D_nil ?_; try dsimp only) | (show DrD _ (EB _ _) _ (_ :: _) _ _ _ _; first | refine D_runL tok ?_ ?_ (h := by intro R; simp (maxSteps := 1000000) (disch := omega) only [go_sem, wrap_i64_id, hh, hq]; with_reducible exact rfl)) | (show DrD _ _ _ (_ :: _) _ _ _ _; refine D_con ?_ ?_) | (show Ev _ _ _ _; first | refine Ev_seq ?_ | refine W_reg ?_ | refine W_ifF ?_ | refine W_ifY ?_ | refine W_ifN ?_ | refine Ev_skip ?_ | refine Ev_ret ?_) | (show EvD _ _ [] _ _ _; refine W_nil ?_) | (show EvD _ _ (⟨_, _, _, _, _, some _⟩ :: _) _ _ _; refine W_grdN ?_) | (show EvD _ _ (_ :: _) _ _ _; first | refine W_run tok ?_ ?_ (by simp (maxSteps := 1000000) (disch := omega) only [go_sem, wrap_i64_id, hh, hq]; with_reducible exact rfl) | refine W_callee ?_) | (show EvC _ _ _ _ _ _ _ _ _; refine W_con ?_ ?_) | (show RetQ _ _ (RP _ _) _ _; refine R_ret ?_ ?_) | (show FrzTo _ _ _ _; refine F_weak ?_) | refine Q_thenN ?_ | refine Q_thenR ?_ | fail)
       all_goals (try exact sd)
       all_goals (try refine F_done ?_)
       all_goals rfl
     ·have hR : nextR S W L O f l a n = ((0, []), 0, readE S W L O (f + a) (nq S W (f + a))) := by unfold nextR; rw [if_neg (by simp [e1]), if_neg hnb, if_pos e2]
      rw [hR]
      repeat' (first | (show Ev _ (.region _ _ true) _ _; refine D_start [9, 49, 51, 54, 65, 68] mix ?_) | (show DrD _ _ _ [] _ _ _ _; refine D_nil ?_; try dsimp only) | (show DrD _ (EB _ _) _ (_ :: _) _ _ _ _; first | refine D_runL tok ?_ ?_ (h := by intro R; simp (maxSteps := 1000000) (disch := omega) only [go_sem, wrap_i64_id, hh, hq]; with_reducible exact rfl)) | (show DrD _ _ _ (_ :: _) _ _ _ _; refine D_con ?_ ?_) | (show Ev _ _ _ _; first | refine Ev_seq ?_ | refine W_reg ?_ | refine W_ifF ?_ | refine W_ifY ?_ | refine W_ifN ?_ | refine Ev_skip ?_ | refine Ev_ret ?_) | (show EvD _ _ [] _ _ _; refine W_nil ?_) | (show EvD _ _ (⟨_, _, _, _, _, some _⟩ :: _) _ _ _; refine W_grdN ?_) | (show EvD _ _ (_ :: _) _ _ _; first | refine W_run tok ?_ ?_ (by simp (maxSteps := 1000000) (disch := omega) only [go_sem, wrap_i64_id, hh, hq]; with_reducible exact rfl) | refine W_callee ?_) | (show EvC _ _ _ _ _ _ _ _ _; refine W_con ?_ ?_) | (show RetQ _ _ (RP _ _) _ _; refine R_ret ?_ ?_) | (show FrzTo _ _ _ _; refine F_weak ?_) | refine Q_thenN ?_ | refine Q_thenR ?_ | fail)
      all_goals (try exact sd)
      all_goals (try refine F_done ?_)
      all_goals rfl
    ·have hb : hdBad S W (f + a) l a n := .inr (.inr hr)
     have hR : nextR S W L O f l a n = ((0, []), 0, 0) := by unfold nextR; rw [if_neg (by simp [e1]), if_pos hb]
     rw [hR]
     repeat' (first | (show Ev _ _ _ _; first | refine Ev_seq ?_ | refine W_reg ?_ | refine W_ifF ?_ | refine W_ifY ?_ | refine Ev_skip ?_ | refine Ev_ret ?_) | (show EvD _ _ [] _ _ _; refine W_nil ?_) | (show EvD _ _ (⟨_, _, _, _, _, some _⟩ :: _) _ _ _; refine W_grdN ?_) | (show EvD _ _ (_ :: _) _ _ _; first | refine W_run tok ?_ ?_ (by simp (maxSteps := 1000000) (disch := omega) only [go_sem, wrap_i64_id, hh]; with_reducible exact rfl) | refine W_callee ?_) | (show EvC _ _ _ _ _ _ _ _ _; refine W_con ?_ ?_) | (show RetQ _ _ (RP _ _) _ _; refine R_ret ?_ ?_) | (show FrzTo _ _ _ _; refine F_weak ?_) | refine Q_thenN ?_ | refine Q_thenR ?_ | fail)
     all_goals (try exact sd)
     all_goals (try refine F_done ?_)
     all_goals rfl
   ·have hb : hdBad S W (f + a) l a n := .inr (.inl hs)
    have hR : nextR S W L O f l a n = ((0, []), 0, 0) := by unfold nextR; rw [if_neg (by simp [e1]), if_pos hb]
    rw [hR]
    repeat' (first | (show Ev _ _ _ _; first | refine Ev_seq ?_ | refine W_reg ?_ | refine W_ifT ?_ | refine W_ifF ?_ | refine Ev_skip ?_ | refine Ev_ret ?_) | (show EvD _ _ [] _ _ _; refine W_nil ?_) | (show EvD _ _ (⟨_, _, _, _, _, some _⟩ :: _) _ _ _; refine W_grdY ?_) | (show EvD _ _ (_ :: _) _ _ _; first | refine W_run tok ?_ ?_ (by simp (maxSteps := 1000000) (disch := omega) only [go_sem, wrap_i64_id, hh]; with_reducible exact rfl) | refine W_callee ?_) | (show EvC _ _ _ _ _ _ _ _ _; refine W_con ?_ ?_) | (show RetQ _ _ (RP _ _) _ _; refine R_ret ?_ ?_) | (show FrzTo _ _ _ _; refine F_weak ?_) | refine Q_thenN ?_ | refine Q_thenR ?_ | fail)
    all_goals (try exact sd)
    all_goals (try refine F_done ?_)
    all_goals rfl
  ·have hb : hdBad S W (f + a) l a n := .inl hh
   have hR : nextR S W L O f l a n = ((0, []), 0, 0) := by unfold nextR; rw [if_neg (by simp [e1]), if_pos hb]
   rw [hR]
   repeat' (first | (show Ev _ _ _ _; first | refine Ev_seq ?_ | refine W_reg ?_ | refine W_ifT ?_ | refine W_ifF ?_ | refine Ev_skip ?_ | refine Ev_ret ?_) | (show EvD _ _ [] _ _ _; refine W_nil ?_) | (show EvD _ _ (⟨_, _, _, _, _, some _⟩ :: _) _ _ _; refine W_grdY ?_) | (show EvD _ _ (_ :: _) _ _ _; first | refine W_run tok ?_ ?_ (by simp (maxSteps := 1000000) (disch := omega) only [go_sem, wrap_i64_id]; with_reducible exact rfl) | refine W_callee ?_) | (show EvC _ _ _ _ _ _ _ _ _; refine W_con ?_ ?_) | (show RetQ _ _ (RP _ _) _ _; refine R_ret ?_ ?_) | (show FrzTo _ _ _ _; refine F_weak ?_) | refine Q_thenN ?_ | refine Q_thenR ?_ | fail)
   all_goals (try exact sd)
   all_goals (try refine F_done ?_)
   all_goals rfl
 ·have hR : nextR S W L O f l a n = ((0, []), 0, readE S W L O (f + a) 1) := by unfold nextR; rw [if_pos e1]
  rw [hR]
  repeat' (first | (show Ev _ _ _ _; first | refine Ev_seq ?_ | refine W_reg ?_ | refine W_ifY ?_ | refine Ev_ret ?_) | (show EvD _ _ [] _ _ _; refine W_nil ?_) | (show EvD _ _ (_ :: _) _ _ _; first | refine W_run tok ?_ ?_ (by simp (maxSteps := 1000000) (disch := omega) only [go_sem, wrap_i64_id]; with_reducible exact rfl) | refine W_callee ?_) | (show EvC _ _ _ _ _ _ _ _ _; refine W_con ?_ ?_) | (show RetQ _ _ (RP _ _) _ _; refine R_ret ?_ ?_) | (show FrzTo _ _ _ _; refine F_weak ?_) | refine Q_thenN ?_ | refine Q_thenR ?_ | fail)
  all_goals (try exact sd)
  all_goals (try refine F_done ?_)
  all_goals rfl
instance i_wal_next (S : List (List UInt8)) (W : List (Int × List UInt8)) (L : Int) (O : Bool) (f l a n : Int) : Con Try.prog 42 [diskD S W L O, logD f l a n] (szP S W ∧ l < 9223372036854775808 ∧ 0 ≤ f ∧ f ≤ 1099511627776 ∧ 0 ≤ a ∧ a ≤ 1099511627776) (.tup [frameD (nextR S W L O f l a n).1.1 (nextR S W L O f l a n).1.2, .int .i64 (nextR S W L O f l a n).2.1, .int .i64 (nextR S W L O f l a n).2.2]) := ⟨c_wal_next S  W  L  O  f l a n ⟩
end Go.Val.Ytlfnmgmbmgacgaa
