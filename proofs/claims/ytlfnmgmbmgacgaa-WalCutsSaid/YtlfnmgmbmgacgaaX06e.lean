/- Chapter 06: what the laws look at, the same frames, what clearing comes to, walked. -/
import Derived.Test.YtlfnmgmbmgacgaaX06c
namespace Go.Val.Ytlfnmgmbmgacgaa
open Go Go.Val Go.Proofs Go.Proofs.Ytlfnmgmbmgacgaa
attribute [local irreducible] Ev EvD EvC thenQ blockQ RoundG RetQ
set_option maxRecDepth 100000
set_option maxHeartbeats 4000000
set_option linter.unusedSimpArgs false
set_option linter.unusedVariables false
def few6 (b : List UInt8) : List UInt8 := if 300 < b.length ∧ b.length ≤ 6000 then b.take 300 else if 6001 < b.length then b.take 6001 else b
theorem few6_le (b : List UInt8) : (few6 b).length ≤ 6001 := by
 unfold few6
 split
 ·rw [List.length_take]; omega
 ·split
  ·rw [List.length_take]; omega
  ·omega
theorem c_bursarlaw06_few (b : List UInt8) (hC : True) : Pure Try.prog n_bursarlaw06_few [.sl (bytes b)] (.sl (bytes (few6 b))) := by
 refine Pure.go tok (rs := [.tmp 2]) [.sl (bytes b), .undef, .undef, .undef, .undef, .undef, .undef, .undef, .undef, .undef, .undef, .undef, .undef, .undef, .undef, .undef, .undef, .undef, .undef] Try.func8 (fun σ => ?_)
 by_cases h1 : 300 < b.length
 ·by_cases h2 : b.length ≤ 6000
  ·have hf : few6 b = b.take 300 := by unfold few6; rw [if_pos ⟨h1, h2⟩]
   rw [hf]
   repeat' (first | (show Ev _ _ _ _; first | refine Ev_seq ?_ | refine W_reg ?_ | refine W_ifY ?_ | refine Ev_ret ?_) | (show EvD _ _ [] _ _ _; refine W_nil ?_) | (show EvD _ _ (⟨_, _, _, _, _, some _⟩ :: _) _ _ _; refine W_grdY ?_) | (show EvD _ _ (_ :: _) _ _ _; refine W_run tok ?_ ?_) | (show RetQ _ _ (RP _ _) _ _; refine R_ret ?_ ?_) | refine Q_thenN ?_ | refine Q_thenR ?_ | fail)
   all_goals (try exact sd)
   all_goals (try refine F_done ?_)
   all_goals rfl
  ·by_cases h3 : 6001 < b.length
   ·have hf : few6 b = b.take 6001 := by unfold few6; rw [if_neg (by omega), if_pos h3]
    rw [hf]
    repeat' (first | (show Ev _ _ _ _; first | refine Ev_seq ?_ | refine W_reg ?_ | refine W_ifY ?_ | refine W_ifN ?_ | refine Ev_skip ?_ | refine Ev_ret ?_) | (show EvD _ _ [] _ _ _; refine W_nil ?_) | (show EvD _ _ (⟨_, _, _, _, _, some _⟩ :: _) _ _ _; refine W_grdY ?_) | (show EvD _ _ (_ :: _) _ _ _; refine W_run tok ?_ ?_) | (show RetQ _ _ (RP _ _) _ _; refine R_ret ?_ ?_) | refine Q_thenN ?_ | refine Q_thenR ?_ | fail)
    all_goals (try exact sd)
    all_goals (try refine F_done ?_)
    all_goals rfl
   ·have hf : few6 b = b := by unfold few6; rw [if_neg (by omega), if_neg h3]
    rw [hf]
    repeat' (first | (show Ev _ _ _ _; first | refine Ev_seq ?_ | refine W_reg ?_ | refine W_ifN ?_ | refine Ev_skip ?_ | refine Ev_ret ?_) | (show EvD _ _ [] _ _ _; refine W_nil ?_) | (show EvD _ _ (⟨_, _, _, _, _, some _⟩ :: _) _ _ _; refine W_grdY ?_) | (show EvD _ _ (_ :: _) _ _ _; refine W_run tok ?_ ?_) | (show RetQ _ _ (RP _ _) _ _; refine R_ret ?_ ?_) | refine Q_thenN ?_ | fail)
    all_goals (try exact sd)
    all_goals (try refine F_done ?_)
    all_goals rfl
 ·have hf : few6 b = b := by unfold few6; rw [if_neg (by omega), if_neg (by omega)]
  rw [hf]
  repeat' (first | (show Ev _ _ _ _; first | refine Ev_seq ?_ | refine W_reg ?_ | refine W_ifF ?_ | refine W_ifN ?_ | refine Ev_skip ?_ | refine Ev_ret ?_) | (show EvD _ _ [] _ _ _; refine W_nil ?_) | (show EvD _ _ (⟨_, _, _, _, _, some _⟩ :: _) _ _ _; refine W_grdN ?_) | (show EvD _ _ (_ :: _) _ _ _; refine W_run tok ?_ ?_) | (show RetQ _ _ (RP _ _) _ _; refine R_ret ?_ ?_) | refine Q_thenN ?_ | fail)
  all_goals (try exact sd)
  all_goals (try refine F_done ?_)
  all_goals rfl
instance i_bursarlaw06_few (b : List UInt8) : Con Try.prog 8 [.sl (bytes b)] (True) (.sl (bytes (few6 b))) := ⟨c_bursarlaw06_few b ⟩
theorem c_bursarref06_Same (A B : List (Int × List UInt8)) (hC : A.length < 1099511627776 ∧ B.length < 1099511627776) : Pure Try.prog n_bursarref06_Same [.sl (pends A), .sl (pends B)] (.bool (decide (A = B))) := by
 refine Pure.go tok (rs := [.tmp 4]) [.sl (pends A), .sl (pends B), .undef, .undef, .undef, .undef, .undef, .undef, .undef, .undef, .undef, .undef, .undef, .undef, .undef, .undef, .undef, .undef, .undef, .undef, .undef, .undef, .undef, .undef, .undef, .undef, .undef, .undef, .undef, .undef, .undef, .undef, .undef, .undef, .undef, .undef, .undef, .undef, .undef, .undef, .undef, .undef, .undef] Try.func22 (fun σ => ?_)
 by_cases c1 : A.length = B.length
 ·have l1 := parts_le A.length (neW A B)
  repeat' (first | (show Ev _ _ _ _; first | refine Ev_seq ?_ | refine W_reg ?_ | refine Ev_block ?_ | refine W_ifN ?_ | refine Ev_skip ?_) | (show EvD _ _ [] _ _ _; refine W_nil ?_) | (show EvD _ _ (_ :: _) _ _ _; refine W_run tok ?_ ?_) | refine Q_thenN ?_ | fail)
  all_goals (try exact sd)
  all_goals (try refine F_done ?_)
  refine Ev_lp (parts A.length (neW A B)) (fun i => [(5, i64 i)]) (fun i => σ) [4, 11, 12, 13, 14, 15, 16, 17, 18, 19, 20, 21, 22, 23, 24, 25, 26, 27, 28, 29, 30, 31, 32, 33, 34, 35, 36, 37, 38, 39, 40, 41, 42] ?_ (by first | rfl | (simp only [List.take_zero, List.append_nil]; done)) (fun i hi => ?_)
  ·exact le1
  by_cases hi' : i < parts A.length (neW A B)
  ·have hil : i < A.length := by omega
   have hg := pends_get hil
   have hg' := pends_get (W := B) (i := i) (by omega)
   have hb := parts_lt hi'
   simp only [neW, Bool.not_eq_false', decide_eq_true_eq] at hb
   have hb1 := hb.1
   have hb2 := hb.2
   repeat' (first | (show Ev _ (.region _ _ true) _ _; refine D_start [9, 49, 51, 54, 65, 68] mix ?_) | (show DrD _ _ _ [] _ _ _ _; refine D_nil ?_; try dsimp only) | (show DrD _ (EB _ _) _ (_ :: _) _ _ _ _; first | refine D_runL tok ?_ ?_ (h := by intro R; simp (maxSteps := 1000000) (disch := omega) only [go_sem, wrap_i64_id, hg, hg', hb1, hb2]; with_reducible exact rfl)) | (show Ev _ _ _ _; first | refine Ev_seq ?_ | refine W_reg ?_ | refine Ev_block ?_ | refine W_ifF ?_ | refine W_ifY ?_ | refine Ev_skip ?_) | (show EvD _ _ [] _ _ _; refine W_nil ?_) | (show EvD _ _ (_ :: _) _ _ _; first | refine W_run tok ?_ ?_ (by simp (maxSteps := 1000000) (disch := omega) only [go_sem, wrap_i64_id, hg, hg', hb1, hb2]; with_reducible exact rfl)) | refine Q_thenN ?_ | refine Q_blkN ?_ | fail)
   all_goals (try exact sd)
   all_goals (try refine F_done ?_)
   refine Q_rndN ?_ (by omega) ?_
   rotate_left
   ·rfl
   repeat (first | exact LeL.nil | refine LeL.cons2 ?_ (Le.undef _) | refine LeL.cons2 ?_ (Le.refl _) | refine LeL.cons2 ?_ (Le.sl _) | refine LeL.cons2 ?_ (Le.eq (by first | rfl | exact congrArg _ (by omega))) | refine LeL.cons2 ?_ (Le.eq ?_))
  ·obtain rfl : i = parts A.length (neW A B) := by omega
   by_cases hS : parts A.length (neW A B) < A.length
   ·have hb := parts_eq hS
    simp only [neW, Bool.not_eq_true', decide_eq_false_iff_not] at hb
    have hg := pends_get hS
    have hg' := pends_get (W := B) (i := parts A.length (neW A B)) (by omega)
    have hne : A ≠ B := fun h => hb (by rw [h]; exact ⟨rfl, rfl⟩)
    repeat' (first | (show Ev _ (.region _ _ true) _ _; refine D_start [9, 49, 51, 54, 65, 68] mix ?_) | (show DrD _ _ _ [] _ _ _ _; refine D_nil ?_; try dsimp only) | (show DrD _ _ _ (⟨_, _, _, _, _, some _⟩ :: _) _ _ _ _; refine D_grdP (fun h => ?_) (fun h => ?_)) | (show DrD _ (EB _ _) _ (_ :: _) _ _ _ _; first | refine D_runL tok ?_ ?_ (h := by intro R; simp (maxSteps := 1000000) (disch := omega) only [go_sem, wrap_i64_id, hg, hg']; with_reducible exact rfl)) | (show Ev _ _ _ _; first | refine Ev_seq ?_ | refine W_reg ?_ | refine Ev_block ?_ | refine W_ifT ?_ | refine W_ifY ?_ | refine W_ifP (fun h => ?_) (fun h => ?_) | refine Ev_skip ?_ | refine Ev_ret ?_) | (show EvD _ _ [] _ _ _; refine W_nil ?_) | (show EvD _ _ (_ :: _) _ _ _; first | refine W_run tok ?_ ?_ (by simp (maxSteps := 1000000) (disch := omega) only [go_sem, wrap_i64_id, hg, hg']; with_reducible exact rfl)) | (show RetQ _ _ (RP _ _) _ _; refine R_ret ?_ ?_) | refine Q_thenN ?_ | refine Q_thenR ?_ | refine Q_blkN ?_ | refine Q_blkR ?_ | refine Q_rndR ?_ | fail)
    all_goals (try exact sd)
    all_goals (try refine F_done ?_)
    all_goals first | (simp [hne]; done) | (exfalso; apply hb; constructor <;> (apply Classical.not_not.1; assumption))
   ·have hSS : A = B := same_pends c1 (fun k hk => by have := parts_all hS hk; simpa [neW] using this)
    repeat' (first | (show Ev _ _ _ _; first | refine Ev_seq ?_ | refine W_reg ?_ | refine W_ifN ?_ | refine Ev_exit ?_ | refine Ev_ret ?_) | (show EvD _ _ [] _ _ _; refine W_nil ?_) | (show EvD _ _ (_ :: _) _ _ _; first | refine W_run tok ?_ ?_ (by simp (maxSteps := 1000000) (disch := omega) only [go_sem, wrap_i64_id]; with_reducible exact rfl)) | (show RetQ _ _ (RP _ _) _ _; refine R_ret ?_ ?_) | refine Q_thenN ?_ | refine Q_thenE ?_ | refine Q_blkE ?_ | refine Q_rndE ?_ | fail)
    all_goals (try exact sd)
    all_goals (try refine F_done ?_)
    all_goals (simp [hSS])
 ·have hne : A ≠ B := fun h => c1 (by rw [h])
  repeat' (first | (show Ev _ _ _ _; first | refine Ev_seq ?_ | refine W_reg ?_ | refine W_ifY ?_ | refine Ev_ret ?_) | (show EvD _ _ [] _ _ _; refine W_nil ?_) | (show EvD _ _ (_ :: _) _ _ _; refine W_run tok ?_ ?_) | (show RetQ _ _ (RP _ _) _ _; refine R_ret ?_ ?_) | refine Q_thenN ?_ | refine Q_thenR ?_ | fail)
  all_goals (try exact sd)
  all_goals (try refine F_done ?_)
  all_goals (simp [hne])
instance i_bursarref06_Same (A B : List (Int × List UInt8)) : Con Try.prog 22 [.sl (pends A), .sl (pends B)] (A.length < 1099511627776 ∧ B.length < 1099511627776) (.bool (decide (A = B))) := ⟨c_bursarref06_Same A B ⟩
def clrF (at_ : Int) : Nat → Dk → Dk × Int
 | 0 => wrF at_ nought64
 | _ => flF
def clrXs (at_ : Int) : List DV := [stepW at_ nought64, flDV]
theorem step_clr {m : Nat} (hm : m < 549755813888) {at_ : Int} : StepOK 2 (clrXs at_) (clrF at_) (fun i s => dkOK (m + 200 * i) s) := by
 intro i hi
 have h3 : nought64.length = 64 := by simp [nought64]
 rcases (by omega : i = 0 ∨ i = 1) with rfl | rfl
 ·exact ⟨_, _, rfl, inferInstance, fun s hs => ⟨con_wrS hs (by omega) (by omega), (wr_ok hs).mono (by omega)⟩⟩
 ·exact ⟨_, _, rfl, inferInstance, fun s hs => ⟨con_flS hs (by omega), (fl_ok hs).mono (by omega)⟩⟩
theorem con_clr {m : Nat} (hm : m < 549755813888) {at_ : Int} {s : Dk} (hs : dkOK m s) :
  Con Try.prog 30 [dkD s, .sl (clrXs at_)] True (.tup [dkD (runF (clrF at_) s 2).1, .int .i64 (runF (clrF at_) s 2).2]) :=
 ⟨fun _ => c_all (clrXs at_) (clrF at_) (fun i s => dkOK (m + 200 * i) s) s (hs.mono (by omega)) (by simp [clrXs]) (step_clr hm) (by simp [clrXs, DV.cells]) (by simp [clrXs, nameds, DV.named, bytes_named])⟩
def clrR (s : Dk) (f l a n : Int) : Dk × Int := if ¬ mayL s.1 s.2.1 s.2.2.1 f l a n then (zeroK, 1) else runF (clrF (f + a)) s 2
theorem c_wal_Clear (S : List (List UInt8)) (W : List (Int × List UInt8)) (L : Int) (O : Bool) (f l a n : Int) (hC : S.length < 1099511627776 ∧ W.length < 549755813888 ∧ L < 9223372036854775808) : Pure Try.prog n_wal_Clear [diskD S W L O, logD f l a n] (.tup [dkD (clrR (S, W, L, O) f l a n).1, .int .i64 (clrR (S, W, L, O) f l a n).2]) := by
 refine Pure.go tok (rs := [.cell 4 25, .tmp 5]) [diskD S W L O, logD f l a n, .undef, .undef, .undef, .undef, .undef, .undef, .undef, .undef, .undef, .undef, .undef, .undef, .undef, .undef, .undef, .undef, .undef, .undef, .undef, .undef, .undef] Try.func24 (fun σ => ?_)
 have hz : szP S W := ⟨hC.1, by omega⟩
 by_cases hm : mayL S W L f l a n
 ·obtain ⟨h1, h2, h3, h4, h5, h6, h7, h8, h9⟩ := id hm
  have h1S := h1.1
  have iA := con_clr (m := W.length) (by omega) (at_ := f + a) (s := (S, W, L, O)) ⟨hC.1, Nat.le_refl _, hC.2.2⟩
  have hR : clrR (S, W, L, O) f l a n = runF (clrF (f + a)) (S, W, L, O) 2 := by unfold clrR; rw [if_neg (by simp [hm])]
  rw [hR]
  simp only [clrXs] at iA
  generalize hrun : runF (clrF (f + a)) (S, W, L, O) 2 = r at iA
  obtain ⟨⟨S', W', L', O'⟩, e⟩ := r
  have iA : Con Try.prog 30 [diskD S W L O, .sl [stepW (f + a) nought64, flDV]] True (.tup [diskD S' W' L' O', .int .i64 e]) := iA
  repeat' (first | (show Ev _ (.region _ _ true) _ _; refine D_startA [9, 49, 51, 54, 65, 68, 99998] mix ?_) | (show DrD _ _ _ [] _ _ _ _; refine D_nil ?_; try dsimp only) | (show DrD _ EA _ (_ :: _) _ _ _ _; first | refine D_runLA tok ?_ ?_ (h := by intro R; simp (maxSteps := 1000000) (disch := omega) only [go_sem, wrap_i64_id]; with_reducible exact rfl)) | (show DrD _ _ _ (_ :: _) _ _ _ _; first | refine D_con ?_ ?_ | refine D_store tok ?_ ?_ | refine D_hold tok ?_ ?_) | (show Ev _ _ _ _; first | refine Ev_seq ?_ | refine W_reg ?_ | refine W_ifN ?_ | refine Ev_skip ?_ | refine Ev_ret ?_) | (show EvD _ _ [] _ _ _; refine W_nil ?_) | (show EvD _ _ (_ :: _) _ _ _; first | refine W_run tok ?_ ?_ (by simp (maxSteps := 1000000) (disch := omega) only [go_sem, wrap_i64_id]; with_reducible exact rfl) | refine W_callee ?_) | (show EvC _ _ _ _ _ _ _ _ _; refine W_con ?_ ?_) | (show RetQ _ _ (RP _ _) _ _; refine R_ret ?_ ?_) | refine Q_thenN ?_ | fail)
  all_goals (try exact sd)
  all_goals (try refine F_done ?_)
  all_goals rfl
 ·have hR : clrR (S, W, L, O) f l a n = (zeroK, 1) := by unfold clrR; rw [if_pos (by simpa using hm)]
  rw [hR]
  repeat' (first | (show Ev _ _ _ _; first | refine Ev_seq ?_ | refine W_reg ?_ | refine W_ifY ?_ | refine Ev_ret ?_) | (show EvD _ _ [] _ _ _; refine W_nil ?_) | (show EvD _ _ (_ :: _) _ _ _; first | refine W_run tok ?_ ?_ (by simp (maxSteps := 1000000) (disch := omega) only [go_sem, wrap_i64_id]; with_reducible exact rfl) | refine W_callee ?_) | (show EvC _ _ _ _ _ _ _ _ _; refine W_con ?_ ?_) | (show RetQ _ _ (RP _ _) _ _; refine R_ret ?_ ?_) | (show FrzTo _ _ _ _; refine F_weak ?_) | refine Q_thenN ?_ | refine Q_thenR ?_ | fail)
  all_goals (try exact sd)
  all_goals (try refine F_done ?_)
  all_goals rfl
instance i_wal_Clear (S : List (List UInt8)) (W : List (Int × List UInt8)) (L : Int) (O : Bool) (f l a n : Int) : Con Try.prog 24 [diskD S W L O, logD f l a n] (S.length < 1099511627776 ∧ W.length < 549755813888 ∧ L < 9223372036854775808) (.tup [dkD (clrR (S, W, L, O) f l a n).1, .int .i64 (clrR (S, W, L, O) f l a n).2]) := ⟨c_wal_Clear S  W  L  O  f l a n ⟩
end Go.Val.Ytlfnmgmbmgacgaa
