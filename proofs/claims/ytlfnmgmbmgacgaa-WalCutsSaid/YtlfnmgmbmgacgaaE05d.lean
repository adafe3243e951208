/- Chapter 05, frames read, walked. -/
import Derived.Test.YtlfnmgmbmgacgaaE05c
namespace Go.Val.Ytlfnmgmbmgacgaa
open Go Go.Val Go.Proofs Go.Proofs.Ytlfnmgmbmgacgaa
attribute [local irreducible] Ev EvD EvC thenQ blockQ RoundG RetQ
set_option maxRecDepth 100000
set_option maxHeartbeats 4000000
set_option linter.unusedSimpArgs false
set_option linter.unusedVariables false
def rdSz (b : List UInt8) : Nat := 64 * ((hdN b + 83) / 64)
def rdData (b : List UInt8) : List UInt8 := (b.take (16 + hdN b)).drop 16
def rdAny (b : List UInt8) : Bool := ((b.take (rdSz b)).drop (20 + hdN b)).any (fun c => !decide (c = 0))
def rdE (b : List UInt8) : Int := if hdE b ≠ 0 then hdE b else if b.length < rdSz b then 3 else if (openD (b.take (20 + hdN b))).2 ≠ 0 ∨ numN ((b.take 16).drop 12) ≠ (crcSum (rdData b)).toNat then 6 else if rdAny b = true then 4 else 0
def rdS (b : List UInt8) : Int := if rdE b = 0 then hdS b else 0
def rdD (b : List UInt8) : List UInt8 := if rdE b = 0 then rdData b else []
def rdN (b : List UInt8) : Int := if rdE b = 0 then rdSz b else 0
theorem hd_ok {b : List UInt8} (h : hdE b = 0) : 16 ≤ b.length ∧ hdN b ≤ 6000 ∧ 1 ≤ hdS b ∧ b.take 4 = [98, 117, 114, 115] ∧ hdS b = numN ((b.take 10).drop 4) ∧ hdN b = numN ((b.take 12).drop 10) := by
 have h2 := h
 unfold hdE at h
 split at h
 ·cases h
 ·split at h
  ·cases h
  ·rename_i h16 hn
   have e1 : hdS b = numN ((b.take 10).drop 4) := by unfold hdS; rw [if_pos h2]
   have e2 : hdN b = numN ((b.take 12).drop 10) := by unfold hdN; rw [if_pos h2]
   refine ⟨by omega, ?_, ?_, ?_, e1, e2⟩
   ·rw [e2]; exact Nat.not_lt.1 fun h => hn (.inr (.inr h))
   ·rw [e1]; exact Nat.pos_of_ne_zero fun h => hn (.inr (.inl h))
   ·exact Classical.not_not.1 fun h => hn (.inl h)
theorem open_two (b : List UInt8) (h : 4 ≤ b.length) : openD b = ([], 6) ∨ openD b = (b.take (b.length - 4), 0) := by
 unfold openD
 rw [if_neg (by omega)]
 split
 ·right; rfl
 ·left; rfl
theorem c_frame_Read (b : List UInt8) (hC : b.length < 1099511627776) : Pure Try.prog n_frame_Read [.sl (bytes b)] (.tup [frameD (rdS b) (rdD b), .int .i64 (rdN b), .int .i64 (rdE b)]) := by
 refine Pure.go tok (rs := [.cell 2 46, .tmp 3, .tmp 4]) [.sl (bytes b), .undef, .undef, .undef, .undef, .undef, .undef, .undef, .undef, .undef, .undef, .undef, .undef, .undef, .undef, .undef, .undef, .undef, .undef, .undef, .undef, .undef, .undef, .undef, .undef, .undef, .undef, .undef, .undef, .undef, .undef, .undef, .undef, .undef, .undef, .undef, .undef, .undef, .undef, .undef, .undef, .undef, .undef, .undef, .undef, .undef, .undef, .undef, .undef, .undef, .undef, .undef, .undef, .undef, .undef, .undef, .undef, .undef, .undef, .undef, .undef, .undef, .undef, .undef, .undef, .undef, .undef, .undef, .undef] Try.func63 (fun σ => ?_)
 by_cases he : hdE b = 0
 ·obtain ⟨h16, hn, hs, hm, -, -⟩ := hd_ok he
  have hs6 : hdS b < 281474976710656 := by unfold hdS; rw [if_pos he]; exact numN_le (k := 6) (by rw [List.length_drop, List.length_take]; omega)
  have hq : secI (hdN b : Int) = (((hdN b + 83) / 64 : Nat) : Int) := by unfold secI; rw [if_pos (by omega)]; rfl
  have hz : rdSz b = 64 * ((hdN b + 83) / 64) := rfl
  have hz2 : (((hdN b + 83) / 64 : Nat) : Int) * 64 = ((rdSz b : Nat) : Int) := by rw [hz]; omega
  have z1 : 20 + hdN b ≤ rdSz b := by omega
  have z2 : rdSz b ≤ 6100 := by omega
  have t1 : (16 + (hdN b : Int)).toNat = 16 + hdN b := by omega
  have t2 : (16 + (hdN b : Int) + 4).toNat = 20 + hdN b := by omega
  have t3 : (16 + (hdN b : Int) + 4) = ((20 + hdN b : Nat) : Int) := by omega
  by_cases hL : b.length < rdSz b
  ·have hr : rdE b = 3 := by unfold rdE; rw [if_neg (by omega), if_pos hL]
   repeat' (first | (show Ev _ _ _ _; first | refine Ev_seq ?_ | refine W_reg ?_ | refine W_ifF ?_ | refine W_ifY ?_ | refine Ev_skip ?_ | refine Ev_ret ?_) | (show EvD _ _ [] _ _ _; refine W_nil ?_) | (show EvD _ _ (_ :: _) _ _ _; first | refine W_run tok ?_ ?_ (by simp (maxSteps := 1000000) (disch := omega) only [go_sem, wrap_i64_id, he, hq, hz2]; with_reducible exact rfl) | refine W_callee ?_) | (show EvC _ _ _ _ _ _ _ _ _; refine W_con ?_ ?_) | (show RetQ _ _ (RP _ _) _ _; refine R_ret ?_ ?_) | (show FrzTo _ _ _ _; refine F_weak ?_) | refine Q_thenN ?_ | refine Q_thenR ?_ | fail)
   all_goals (try exact sd)
   all_goals (try refine F_done ?_)
   all_goals (simp [rdS, rdD, rdN, hr, bytes_nil])
  ·have hlt : (b.take (20 + hdN b)).length = 20 + hdN b := by rw [List.length_take]; omega
   have hl12 : ((b.take 16).drop 12).length = 4 := by rw [List.length_drop, List.length_take]; omega
   have hn4 : numN ((b.take 16).drop 12) < 4294967296 := numN_le (k := 4) (by omega)
   have hlb : (b.take (16 + hdN b)).length = 16 + hdN b := by rw [List.length_take]; omega
   have hdt : (b.take (16 + hdN b)).drop 16 = rdData b := rfl
   have hdl : (rdData b).length = hdN b := by unfold rdData; rw [List.length_drop, hlb]; omega
   have hcr := (crcSum (rdData b)).isLt
   have hall := any_bytes ((b.take (rdSz b)).drop (20 + hdN b))
   have hall : (bytes ((b.take (rdSz b)).drop (20 + hdN b))).any notNought = rdAny b := hall
   have hlz : ((b.take (rdSz b)).drop (20 + hdN b)).length < 1099511627776 := by rw [List.length_drop, List.length_take]; omega
   have hdom : ∀ x ∈ bytes ((b.take (rdSz b)).drop (20 + hdN b)), ∃ c : UInt8, x = .int .u8 c.toNat := by
    intro x hx; simp only [bytes, List.mem_map] at hx; obtain ⟨c, _, rfl⟩ := hx; exact ⟨c, rfl⟩
   rcases open_two (b.take (20 + hdN b)) (by omega) with ho | ho
   ·have hr : rdE b = 6 := by unfold rdE; rw [if_neg (by omega), if_neg hL, if_pos (.inl (by rw [ho]; decide))]
    repeat' (first | (show Ev _ _ _ _; first | refine Ev_seq ?_ | refine W_reg ?_ | refine W_ifT ?_ | refine W_ifF ?_ | refine W_ifN ?_ | refine Ev_skip ?_ | refine Ev_ret ?_) | (show EvD _ _ [] _ _ _; refine W_nil ?_) | (show EvD _ _ (⟨_, _, _, _, _, some _⟩ :: _) _ _ _; refine W_grdY ?_) | (show EvD _ _ (_ :: _) _ _ _; first | refine W_run tok ?_ ?_ (by simp (maxSteps := 1000000) (disch := omega) only [go_sem, wrap_i64_id, he, hq, hz2, t1, t2, t3, ho]; with_reducible exact rfl) | refine W_callee ?_) | (show EvC _ _ _ _ _ _ _ _ _; refine W_con ?_ ?_) | (show RetQ _ _ (RP _ _) _ _; refine R_ret ?_ ?_) | (show FrzTo _ _ _ _; refine F_weak ?_) | refine Q_thenN ?_ | refine Q_thenR ?_ | fail)
    all_goals (try exact sd)
    all_goals (try refine F_done ?_)
    all_goals (simp [rdS, rdD, rdN, hr, bytes_nil])
   ·by_cases hk : numN ((b.take 16).drop 12) = (crcSum (rdData b)).toNat
    ·have iA := i_HasB (bytes ((b.take (rdSz b)).drop (20 + hdN b))) 75 [] []
     rw [hall] at iA
     have iA : Con Try.prog n_slices_ContainsFunc_s_byte_byte [.sl (bytes ((b.take (rdSz b)).drop (20 + hdN b))), .fn (.func 75) [] []] True (.bool (rdAny b)) :=
      ⟨fun _ => iA.1 ⟨⟨by rw [bytes_len]; exact hlz, fun x hx => by obtain ⟨c, rfl⟩ := hdom x hx; rfl⟩, hdom⟩⟩
     cases ha : rdAny b with
     | true =>
      rw [ha] at iA
      have hr : rdE b = 4 := by unfold rdE; rw [if_neg (by omega), if_neg hL, if_neg (by rintro (h | h); exact h (by rw [ho]); exact h hk), if_pos ha]
      repeat' (first | (show Ev _ _ _ _; first | refine Ev_seq ?_ | refine W_reg ?_ | refine W_ifT ?_ | refine W_ifF ?_ | refine W_ifN ?_ | refine Ev_skip ?_ | refine Ev_ret ?_) | (show EvD _ _ [] _ _ _; refine W_nil ?_) | (show EvD _ _ (_ :: _) _ _ _; first | refine W_run tok ?_ ?_ (by simp (maxSteps := 1000000) (disch := omega) only [go_sem, wrap_i64_id, he, hq, hz2, t1, t2, t3, ho, hdt, hk]; with_reducible exact rfl) | refine W_callee ?_) | (show EvC _ _ _ _ _ _ _ _ _; first | refine W_con ?_ ?_ | refine W_weak ?_) | (show RetQ _ _ (RP _ _) _ _; refine R_ret ?_ ?_) | (show FrzTo _ _ _ _; refine F_weak ?_) | refine Q_thenN ?_ | refine Q_thenR ?_ | fail)
      all_goals (try exact sd)
      all_goals (try refine F_done ?_)
      all_goals first | (simp [rdS, rdD, rdN, hr, bytes_nil]; done) | skip
     | false =>
      rw [ha] at iA
      have hr : rdE b = 0 := by unfold rdE; rw [if_neg (by omega), if_neg hL, if_neg (by rintro (h | h); exact h (by rw [ho]); exact h hk), if_neg (by rw [ha]; decide)]
      repeat' (first | (show Ev _ _ _ _; first | refine Ev_seq ?_ | refine W_reg ?_ | refine W_ifF ?_ | refine W_ifN ?_ | refine Ev_skip ?_ | refine Ev_ret ?_) | (show EvD _ _ [] _ _ _; refine W_nil ?_) | (show EvD _ _ (_ :: _) _ _ _; first | refine W_run tok ?_ ?_ (by simp (maxSteps := 1000000) (disch := omega) only [go_sem, wrap_i64_id, he, hq, hz2, t1, t2, t3, ho, hdt, hk]; with_reducible exact rfl) | refine W_callee ?_) | (show EvC _ _ _ _ _ _ _ _ _; first | refine W_con ?_ ?_ | refine W_conOwn ?_ ?_ | refine W_weak ?_) | (show RetQ _ _ (RP _ _) _ _; refine R_ret ?_ ?_) | (show FrzTo _ _ _ _; refine F_row ?_) | refine Q_thenN ?_ | fail)
      all_goals (try exact sd)
      all_goals (try refine F_done ?_)
      all_goals first | (simp [rdS, rdD, rdN, hr, bytes_nil]; done) | skip
    ·have hr : rdE b = 6 := by unfold rdE; rw [if_neg (by omega), if_neg hL, if_pos (.inr hk)]
     repeat' (first | (show Ev _ _ _ _; first | refine Ev_seq ?_ | refine W_reg ?_ | refine W_ifF ?_ | refine W_ifY ?_ | refine W_ifN ?_ | refine Ev_skip ?_ | refine Ev_ret ?_) | (show EvD _ _ [] _ _ _; refine W_nil ?_) | (show EvD _ _ (_ :: _) _ _ _; first | refine W_run tok ?_ ?_ (by simp (maxSteps := 1000000) (disch := omega) only [go_sem, wrap_i64_id, he, hq, hz2, t1, t2, t3, ho, hdt]; with_reducible exact rfl) | refine W_callee ?_) | (show EvC _ _ _ _ _ _ _ _ _; first | refine W_con ?_ ?_ | refine W_weak ?_) | (show RetQ _ _ (RP _ _) _ _; refine R_ret ?_ ?_) | (show FrzTo _ _ _ _; refine F_weak ?_) | refine Q_thenN ?_ | refine Q_thenR ?_ | fail)
     all_goals (try exact sd)
     all_goals (try refine F_done ?_)
     all_goals (simp [rdS, rdD, rdN, hr, bytes_nil])
 ·have hr : rdE b = hdE b := by unfold rdE; rw [if_pos he]
  repeat' (first | (show Ev _ _ _ _; first | refine Ev_seq ?_ | refine W_reg ?_ | refine W_ifY ?_ | refine Ev_ret ?_) | (show EvD _ _ [] _ _ _; refine W_nil ?_) | (show EvD _ _ (_ :: _) _ _ _; first | refine W_run tok ?_ ?_ | refine W_callee ?_) | (show EvC _ _ _ _ _ _ _ _ _; refine W_con ?_ ?_) | (show RetQ _ _ (RP _ _) _ _; refine R_ret ?_ ?_) | (show FrzTo _ _ _ _; refine F_weak ?_) | refine Q_thenN ?_ | refine Q_thenR ?_ | fail)
  all_goals (try exact sd)
  all_goals (try refine F_done ?_)
  all_goals (simp [rdS, rdD, rdN, hr, he, bytes_nil])
instance i_frame_Read (b : List UInt8) : Con Try.prog 63 [.sl (bytes b)] (b.length < 1099511627776) (.tup [frameD (rdS b) (rdD b), .int .i64 (rdN b), .int .i64 (rdE b)]) := ⟨c_frame_Read b ⟩
end Go.Val.Ytlfnmgmbmgacgaa
