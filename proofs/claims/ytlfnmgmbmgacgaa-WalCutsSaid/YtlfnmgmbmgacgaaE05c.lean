/- Chapter 05, frames read, walked. -/
import Derived.Test.YtlfnmgmbmgacgaaE05b
import Derived.Test.YtlfnmgmbmgacgaaD04a
namespace Go.Val.Ytlfnmgmbmgacgaa
open Go Go.Val Go.Proofs Go.Proofs.Ytlfnmgmbmgacgaa
attribute [local irreducible] Ev EvD EvC thenQ blockQ RoundG RetQ
set_option maxRecDepth 100000
set_option maxHeartbeats 4000000
set_option linter.unusedSimpArgs false
set_option linter.unusedVariables false
def hdE (b : List UInt8) : Int := if b.length < 16 then 3 else if b.take 4 ≠ [98, 117, 114, 115] ∨ numN ((b.take 10).drop 4) = 0 ∨ 6000 < numN ((b.take 12).drop 10) then 4 else 0
def hdS (b : List UInt8) : Nat := if hdE b = 0 then numN ((b.take 10).drop 4) else 0
def hdN (b : List UInt8) : Nat := if hdE b = 0 then numN ((b.take 12).drop 10) else 0
theorem c_frame_Head (b : List UInt8) (hC : b.length < 1099511627776) : Pure Try.prog n_frame_Head [.sl (bytes b)] (.tup [.int .i64 (hdS b), .int .i64 (hdN b), .int .i64 (hdE b)]) := by
 refine Pure.go tok (rs := [.tmp 2, .tmp 3, .tmp 4]) [.sl (bytes b), .undef, .undef, .undef, .undef, .undef, .undef, .undef, .undef, .undef, .undef, .undef, .undef, .undef, .undef, .undef, .undef, .undef, .undef, .undef, .undef, .undef, .undef, .undef, .undef, .undef, .undef, .undef, .undef, .undef] Try.func62 (fun σ => ?_)
 by_cases h16 : b.length < 16
 ·have he : hdE b = 3 := by unfold hdE; rw [if_pos h16]
  repeat' (first | (show Ev _ _ _ _; first | refine Ev_seq ?_ | refine W_reg ?_ | refine W_ifY ?_ | refine Ev_ret ?_) | (show EvD _ _ [] _ _ _; refine W_nil ?_) | (show EvD _ _ (_ :: _) _ _ _; refine W_run tok ?_ ?_) | (show RetQ _ _ (RP _ _) _ _; refine R_ret ?_ ?_) | refine Q_thenN ?_ | refine Q_thenR ?_ | fail)
  all_goals (try exact sd)
  all_goals (try refine F_done ?_)
  all_goals (simp [hdS, hdN, he])
 ·have hl1 : ((b.take 10).drop 4).length = 6 := by rw [List.length_drop, List.length_take]; omega
  have hl2 : ((b.take 12).drop 10).length = 2 := by rw [List.length_drop, List.length_take]; omega
  have d0 : b.take 4 = b.take 4 := rfl
  by_cases hm : b.take 4 = [98, 117, 114, 115]
  ·by_cases hs : numN ((b.take 10).drop 4) = 0
   ·have he : hdE b = 4 := by unfold hdE; rw [if_neg h16, if_pos (.inr (.inl hs))]
    repeat' (first | (show Ev _ (.region _ _ true) _ _; refine D_start [9, 49, 51, 54, 65, 68] mix ?_) | (show DrD _ _ _ [] _ _ _ _; refine D_nil ?_; try dsimp only) | (show DrD _ (EB _ _) _ (_ :: _) _ _ _ _; first | refine D_runL tok ?_ ?_ (h := by intro R; simp (maxSteps := 1000000) (disch := omega) only [go_sem, wrap_i64_id, hm, hs]; with_reducible exact rfl)) | (show DrD _ _ _ (_ :: _) _ _ _ _; refine D_con ?_ ?_) | (show Ev _ _ _ _; first | refine Ev_seq ?_ | refine W_reg ?_ | refine W_ifT ?_ | refine W_ifN ?_ | refine Ev_skip ?_ | refine Ev_ret ?_) | (show EvD _ _ [] _ _ _; refine W_nil ?_) | (show EvD _ _ (_ :: _) _ _ _; first | refine W_run tok ?_ ?_ (by simp (maxSteps := 1000000) (disch := omega) only [go_sem, wrap_i64_id, hm, hs]; with_reducible exact rfl)) | (show RetQ _ _ (RP _ _) _ _; refine R_ret ?_ ?_) | refine Q_thenN ?_ | refine Q_thenR ?_ | fail)
    all_goals (try exact sd)
    all_goals (try refine F_done ?_)
    all_goals (simp [hdS, hdN, he])
   ·by_cases hn : 6000 < numN ((b.take 12).drop 10)
    ·have he : hdE b = 4 := by unfold hdE; rw [if_neg h16, if_pos (.inr (.inr hn))]
     repeat' (first | (show Ev _ (.region _ _ true) _ _; refine D_start [9, 49, 51, 54, 65, 68] mix ?_) | (show DrD _ _ _ [] _ _ _ _; refine D_nil ?_; try dsimp only) | (show DrD _ (EB _ _) _ (_ :: _) _ _ _ _; first | refine D_runL tok ?_ ?_ (h := by intro R; simp (maxSteps := 1000000) (disch := omega) only [go_sem, wrap_i64_id, hm]; with_reducible exact rfl)) | (show DrD _ _ _ (_ :: _) _ _ _ _; refine D_con ?_ ?_) | (show Ev _ _ _ _; first | refine Ev_seq ?_ | refine W_reg ?_ | refine W_ifY ?_ | refine W_ifN ?_ | refine Ev_skip ?_ | refine Ev_ret ?_) | (show EvD _ _ [] _ _ _; refine W_nil ?_) | (show EvD _ _ (⟨_, _, _, _, _, some _⟩ :: _) _ _ _; refine W_grdN ?_) | (show EvD _ _ (_ :: _) _ _ _; first | refine W_run tok ?_ ?_ (by simp (maxSteps := 1000000) (disch := omega) only [go_sem, wrap_i64_id, hm]; with_reducible exact rfl)) | (show RetQ _ _ (RP _ _) _ _; refine R_ret ?_ ?_) | refine Q_thenN ?_ | refine Q_thenR ?_ | fail)
     all_goals (try exact sd)
     all_goals (try refine F_done ?_)
     all_goals (simp [hdS, hdN, he])
    ·have he : hdE b = 0 := by unfold hdE; rw [if_neg h16, if_neg]; rintro (h | h | h); exact h hm; exact hs h; exact hn h
     repeat' (first | (show Ev _ (.region _ _ true) _ _; refine D_start [9, 49, 51, 54, 65, 68] mix ?_) | (show DrD _ _ _ [] _ _ _ _; refine D_nil ?_; try dsimp only) | (show DrD _ (EB _ _) _ (_ :: _) _ _ _ _; first | refine D_runL tok ?_ ?_ (h := by intro R; simp (maxSteps := 1000000) (disch := omega) only [go_sem, wrap_i64_id, hm]; with_reducible exact rfl)) | (show DrD _ _ _ (_ :: _) _ _ _ _; refine D_con ?_ ?_) | (show Ev _ _ _ _; first | refine Ev_seq ?_ | refine W_reg ?_ | refine W_ifN ?_ | refine Ev_skip ?_ | refine Ev_ret ?_) | (show EvD _ _ [] _ _ _; refine W_nil ?_) | (show EvD _ _ (⟨_, _, _, _, _, some _⟩ :: _) _ _ _; refine W_grdN ?_) | (show EvD _ _ (_ :: _) _ _ _; first | refine W_run tok ?_ ?_ (by simp (maxSteps := 1000000) (disch := omega) only [go_sem, wrap_i64_id, hm]; with_reducible exact rfl)) | (show RetQ _ _ (RP _ _) _ _; refine R_ret ?_ ?_) | refine Q_thenN ?_ | fail)
     all_goals (try exact sd)
     all_goals (try refine F_done ?_)
     all_goals (simp [hdS, hdN, he])
  ·have he : hdE b = 4 := by unfold hdE; rw [if_neg h16, if_pos (.inl hm)]
   repeat' (first | (show Ev _ (.region _ _ true) _ _; refine D_start [9, 49, 51, 54, 65, 68] mix ?_) | (show DrD _ _ _ [] _ _ _ _; refine D_nil ?_; try dsimp only) | (show DrD _ (EB _ _) _ (_ :: _) _ _ _ _; first | refine D_runL tok ?_ ?_ (h := by intro R; simp (maxSteps := 1000000) (disch := omega) only [go_sem, wrap_i64_id]; with_reducible exact rfl)) | (show DrD _ _ _ (_ :: _) _ _ _ _; refine D_con ?_ ?_) | (show Ev _ _ _ _; first | refine Ev_seq ?_ | refine W_reg ?_ | refine W_ifT ?_ | refine W_ifN ?_ | refine Ev_skip ?_ | refine Ev_ret ?_) | (show EvD _ _ [] _ _ _; refine W_nil ?_) | (show EvD _ _ (⟨_, _, _, _, _, some _⟩ :: _) _ _ _; refine W_grdY ?_) | (show EvD _ _ (_ :: _) _ _ _; first | refine W_run tok ?_ ?_ (by simp (maxSteps := 1000000) (disch := omega) only [go_sem, wrap_i64_id]; with_reducible exact rfl)) | (show RetQ _ _ (RP _ _) _ _; refine R_ret ?_ ?_) | refine Q_thenN ?_ | refine Q_thenR ?_ | fail)
   all_goals (try exact sd)
   all_goals (try refine F_done ?_)
   all_goals (simp [hdS, hdN, he])
instance i_frame_Head (b : List UInt8) : Con Try.prog 62 [.sl (bytes b)] (b.length < 1099511627776) (.tup [.int .i64 (hdS b), .int .i64 (hdN b), .int .i64 (hdE b)]) := ⟨c_frame_Head b ⟩
theorem c_bursarref05_Head (b : List UInt8) (hC : b.length < 1099511627776) : Pure Try.prog n_bursarref05_Head [.str b] (.tup [.int .i64 (hdS b), .int .i64 (hdN b), .int .i64 (hdE b)]) := by
 refine Pure.go tok (rs := [.tmp 2, .tmp 3, .tmp 4]) [.str b, .undef, .undef, .undef, .undef, .undef, .undef, .undef, .undef, .undef, .undef, .undef, .undef, .undef, .undef, .undef, .undef, .undef, .undef, .undef, .undef, .undef, .undef, .undef, .undef, .undef, .undef, .undef, .undef] Try.func64 (fun σ => ?_)
 by_cases h16 : b.length < 16
 ·have he : hdE b = 3 := by unfold hdE; rw [if_pos h16]
  repeat' (first | (show Ev _ _ _ _; first | refine Ev_seq ?_ | refine W_reg ?_ | refine W_ifY ?_ | refine Ev_ret ?_) | (show EvD _ _ [] _ _ _; refine W_nil ?_) | (show EvD _ _ (_ :: _) _ _ _; refine W_run tok ?_ ?_) | (show RetQ _ _ (RP _ _) _ _; refine R_ret ?_ ?_) | refine Q_thenN ?_ | refine Q_thenR ?_ | fail)
  all_goals (try exact sd)
  all_goals (try refine F_done ?_)
  all_goals (simp [hdS, hdN, he])
 ·have hl1 : ((b.take 10).drop 4).length = 6 := by rw [List.length_drop, List.length_take]; omega
  have hl2 : ((b.take 12).drop 10).length = 2 := by rw [List.length_drop, List.length_take]; omega
  by_cases hm : b.take 4 = [98, 117, 114, 115]
  ·by_cases hs : numN ((b.take 10).drop 4) = 0
   ·have he : hdE b = 4 := by unfold hdE; rw [if_neg h16, if_pos (.inr (.inl hs))]
    repeat' (first | (show Ev _ (.region _ _ true) _ _; refine D_start [9, 49, 51, 54, 65, 68] mix ?_) | (show DrD _ _ _ [] _ _ _ _; refine D_nil ?_; try dsimp only) | (show DrD _ (EB _ _) _ (_ :: _) _ _ _ _; first | refine D_runL tok ?_ ?_ (h := by intro R; simp (maxSteps := 1000000) (disch := omega) only [go_sem, wrap_i64_id, hm, hs]; with_reducible exact rfl)) | (show DrD _ _ _ (_ :: _) _ _ _ _; refine D_con ?_ ?_) | (show Ev _ _ _ _; first | refine Ev_seq ?_ | refine W_reg ?_ | refine W_ifT ?_ | refine W_ifN ?_ | refine Ev_skip ?_ | refine Ev_ret ?_) | (show EvD _ _ [] _ _ _; refine W_nil ?_) | (show EvD _ _ (_ :: _) _ _ _; first | refine W_run tok ?_ ?_ (by simp (maxSteps := 1000000) (disch := omega) only [go_sem, wrap_i64_id, hm, hs]; with_reducible exact rfl)) | (show RetQ _ _ (RP _ _) _ _; refine R_ret ?_ ?_) | refine Q_thenN ?_ | refine Q_thenR ?_ | fail)
    all_goals (try exact sd)
    all_goals (try refine F_done ?_)
    all_goals (simp [hdS, hdN, he])
   ·by_cases hn : 6000 < numN ((b.take 12).drop 10)
    ·have he : hdE b = 4 := by unfold hdE; rw [if_neg h16, if_pos (.inr (.inr hn))]
     repeat' (first | (show Ev _ (.region _ _ true) _ _; refine D_start [9, 49, 51, 54, 65, 68] mix ?_) | (show DrD _ _ _ [] _ _ _ _; refine D_nil ?_; try dsimp only) | (show DrD _ (EB _ _) _ (_ :: _) _ _ _ _; first | refine D_runL tok ?_ ?_ (h := by intro R; simp (maxSteps := 1000000) (disch := omega) only [go_sem, wrap_i64_id, hm]; with_reducible exact rfl)) | (show DrD _ _ _ (_ :: _) _ _ _ _; refine D_con ?_ ?_) | (show Ev _ _ _ _; first | refine Ev_seq ?_ | refine W_reg ?_ | refine W_ifY ?_ | refine W_ifN ?_ | refine Ev_skip ?_ | refine Ev_ret ?_) | (show EvD _ _ [] _ _ _; refine W_nil ?_) | (show EvD _ _ (⟨_, _, _, _, _, some _⟩ :: _) _ _ _; refine W_grdN ?_) | (show EvD _ _ (_ :: _) _ _ _; first | refine W_run tok ?_ ?_ (by simp (maxSteps := 1000000) (disch := omega) only [go_sem, wrap_i64_id, hm]; with_reducible exact rfl)) | (show RetQ _ _ (RP _ _) _ _; refine R_ret ?_ ?_) | refine Q_thenN ?_ | refine Q_thenR ?_ | fail)
     all_goals (try exact sd)
     all_goals (try refine F_done ?_)
     all_goals (simp [hdS, hdN, he])
    ·have he : hdE b = 0 := by unfold hdE; rw [if_neg h16, if_neg]; rintro (h | h | h); exact h hm; exact hs h; exact hn h
     repeat' (first | (show Ev _ (.region _ _ true) _ _; refine D_start [9, 49, 51, 54, 65, 68] mix ?_) | (show DrD _ _ _ [] _ _ _ _; refine D_nil ?_; try dsimp only) | (show DrD _ (EB _ _) _ (_ :: _) _ _ _ _; first | refine D_runL tok ?_ ?_ (h := by intro R; simp (maxSteps := 1000000) (disch := omega) only [go_sem, wrap_i64_id, hm]; with_reducible exact rfl)) | (show DrD _ _ _ (_ :: _) _ _ _ _; refine D_con ?_ ?_) | (show Ev _ _ _ _; first | refine Ev_seq ?_ | refine W_reg ?_ | refine W_ifN ?_ | refine Ev_skip ?_ | refine Ev_ret ?_) | (show EvD _ _ [] _ _ _; refine W_nil ?_) | (show EvD _ _ (⟨_, _, _, _, _, some _⟩ :: _) _ _ _; refine W_grdN ?_) | (show EvD _ _ (_ :: _) _ _ _; first | refine W_run tok ?_ ?_ (by simp (maxSteps := 1000000) (disch := omega) only [go_sem, wrap_i64_id, hm]; with_reducible exact rfl)) | (show RetQ _ _ (RP _ _) _ _; refine R_ret ?_ ?_) | refine Q_thenN ?_ | fail)
     all_goals (try exact sd)
     all_goals (try refine F_done ?_)
     all_goals (simp [hdS, hdN, he])
  ·have he : hdE b = 4 := by unfold hdE; rw [if_neg h16, if_pos (.inl hm)]
   repeat' (first | (show Ev _ (.region _ _ true) _ _; refine D_start [9, 49, 51, 54, 65, 68] mix ?_) | (show DrD _ _ _ [] _ _ _ _; refine D_nil ?_; try dsimp only) | (show DrD _ (EB _ _) _ (_ :: _) _ _ _ _; first | refine D_runL tok ?_ ?_ (h := by intro R; simp (maxSteps := 1000000) (disch := omega) only [go_sem, wrap_i64_id]; with_reducible exact rfl)) | (show DrD _ _ _ (_ :: _) _ _ _ _; refine D_con ?_ ?_) | (show Ev _ _ _ _; first | refine Ev_seq ?_ | refine W_reg ?_ | refine W_ifT ?_ | refine W_ifN ?_ | refine Ev_skip ?_ | refine Ev_ret ?_) | (show EvD _ _ [] _ _ _; refine W_nil ?_) | (show EvD _ _ (⟨_, _, _, _, _, some _⟩ :: _) _ _ _; refine W_grdY ?_) | (show EvD _ _ (_ :: _) _ _ _; first | refine W_run tok ?_ ?_ (by simp (maxSteps := 1000000) (disch := omega) only [go_sem, wrap_i64_id]; with_reducible exact rfl)) | (show RetQ _ _ (RP _ _) _ _; refine R_ret ?_ ?_) | refine Q_thenN ?_ | refine Q_thenR ?_ | fail)
   all_goals (try exact sd)
   all_goals (try refine F_done ?_)
   all_goals (simp [hdS, hdN, he])
instance i_bursarref05_Head (b : List UInt8) : Con Try.prog 64 [.str b] (b.length < 1099511627776) (.tup [.int .i64 (hdS b), .int .i64 (hdN b), .int .i64 (hdE b)]) := ⟨c_bursarref05_Head b ⟩
theorem c_frame_Read_1 (c : UInt8) (hC : True) : Pure Try.prog n_frame_Read_1 [.int .u8 c.toNat] (.bool (!decide (c.toNat = 0))) := by
 refine Pure.go tok (rs := [.tmp 2]) [.int .u8 c.toNat, .undef, .undef, .undef, .undef] Try.func75 (fun σ => ?_)
 repeat' (first | (show Ev _ _ _ _; first | refine Ev_seq ?_ | refine W_reg ?_ | refine Ev_ret ?_) | (show EvD _ _ [] _ _ _; refine W_nil ?_) | (show EvD _ _ (_ :: _) _ _ _; refine W_run tok ?_ ?_) | (show RetQ _ _ (RP _ _) _ _; refine R_ret ?_ ?_) | refine Q_thenN ?_ | fail)
 all_goals (try exact sd)
 all_goals (try refine F_done ?_)
 all_goals (simp)
instance i_frame_Read_1 (c : UInt8) : Con Try.prog 75 [.int .u8 c.toNat] (True) (.bool (!decide (c.toNat = 0))) := ⟨c_frame_Read_1 c ⟩
def notNought : DV → Bool
 | .int _ c => !decide (c = 0)
 | _ => false
instance p_Read_1 : PredC Try.prog 75 [] [] (fun x => ∃ c : UInt8, x = .int .u8 c.toNat) notNought :=
 .of at_frame_Read_1 (by rintro x ⟨c, rfl⟩; have h := c_frame_Read_1 c trivial; simpa [notNought] using h)
theorem any_bytes (l : List UInt8) : (bytes l).any notNought = l.any (fun c => !decide (c = 0)) := by
 induction l with
 | nil => rfl
 | cons c l ih =>
  have h : decide ((c.toNat : Int) = 0) = decide (c = 0) := by
   apply decide_eq_decide.2
   constructor
   ·intro h; apply UInt8.toNat.inj; simp; omega
   ·rintro rfl; rfl
  have e : bytes (c :: l) = .int .u8 c.toNat :: bytes l := rfl
  rw [e, List.any_cons, List.any_cons, ih]
  simp only [notNought, h]
end Go.Val.Ytlfnmgmbmgacgaa
