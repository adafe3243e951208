/- Chapter 04: budgets, crashes, flushes, walked. -/
import Derived.Test.YtlfnmgmbmgacgaaD04d
namespace Go.Val.Ytlfnmgmbmgacgaa
open Go Go.Val Go.Proofs Go.Proofs.Ytlfnmgmbmgacgaa
attribute [local irreducible] Ev EvD EvC thenQ blockQ RoundG RetQ
set_option maxRecDepth 100000
set_option maxHeartbeats 4000000
set_option linter.unusedSimpArgs false
set_option linter.unusedVariables false
abbrev szP (S : List (List UInt8)) (W : List (Int × List UInt8)) : Prop := S.length < 1099511627776 ∧ W.length < 1099511627776
abbrev diskIf (c : Prop) [Decidable c] (S : List (List UInt8)) (W : List (Int × List UInt8)) (L : Int) (O : Bool) : DV := diskD (if c then S else []) (if c then W else []) (if c then L else 0) (if c then O else false)
theorem c_disk_Budget (S : List (List UInt8)) (W : List (Int × List UInt8)) (L : Int) (O : Bool) (n : Int) (hC : szP S W) : Pure Try.prog n_disk_Budget [diskD S W L O, .int .i64 n] (.tup [diskIf (mayP S W L ∧ -1 ≤ n) S W n O, .int .i64 (if mayP S W L ∧ -1 ≤ n then 0 else 1)]) := by
 refine Pure.go tok (rs := [.cell 4 25, .tmp 5]) [diskD S W L O, .int .i64 n, .undef, .undef, .undef, .undef, .undef, .undef, .undef, .undef, .undef, .undef, .undef, .undef, .undef, .undef, .undef] Try.func27 (fun σ => ?_)
 by_cases hm : mayP S W L
 ·by_cases hn : -1 ≤ n
  ·have hx : mayP S W L ∧ -1 ≤ n := ⟨hm, hn⟩
   repeat' (first | (show Ev _ _ _ _; first | refine Ev_seq ?_ | refine W_reg ?_ | refine W_ifN ?_ | refine Ev_skip ?_ | refine Ev_ret ?_) | (show EvD _ _ [] _ _ _; refine W_nil ?_) | (show EvD _ _ (⟨_, _, _, _, _, some _⟩ :: _) _ _ _; refine W_grdN ?_) | (show EvD _ _ (_ :: _) _ _ _; first | refine W_run tok ?_ ?_ | refine W_callee ?_) | (show EvC _ _ _ _ _ _ _ _ _; refine W_con ?_ ?_) | (show RetQ _ _ (RP _ _) _ _; refine R_ret ?_ ?_) | refine Q_thenN ?_ | fail)
   all_goals (try exact sd)
   all_goals (try refine F_done ?_)
   simp [hx]
  ·have hx : ¬ (mayP S W L ∧ -1 ≤ n) := fun h => hn h.2
   repeat' (first | (show Ev _ _ _ _; first | refine Ev_seq ?_ | refine W_reg ?_ | refine W_ifY ?_ | refine Ev_ret ?_) | (show EvD _ _ [] _ _ _; refine W_nil ?_) | (show EvD _ _ (⟨_, _, _, _, _, some _⟩ :: _) _ _ _; refine W_grdN ?_) | (show EvD _ _ (_ :: _) _ _ _; first | refine W_run tok ?_ ?_ | refine W_callee ?_) | (show EvC _ _ _ _ _ _ _ _ _; refine W_con ?_ ?_) | (show RetQ _ _ (RP _ _) _ _; refine R_ret ?_ ?_) | (show FrzTo _ _ _ _; refine F_weak ?_) | refine Q_thenN ?_ | refine Q_thenR ?_ | fail)
   all_goals (try exact sd)
   all_goals (try refine F_done ?_)
   simp [hx, secs, pends]
 ·have hx : ¬ (mayP S W L ∧ -1 ≤ n) := fun h => hm h.1
  repeat' (first | (show Ev _ _ _ _; first | refine Ev_seq ?_ | refine W_reg ?_ | refine W_ifT ?_ | refine Ev_ret ?_) | (show EvD _ _ [] _ _ _; refine W_nil ?_) | (show EvD _ _ (⟨_, _, _, _, _, some _⟩ :: _) _ _ _; refine W_grdY ?_) | (show EvD _ _ (_ :: _) _ _ _; first | refine W_run tok ?_ ?_ | refine W_callee ?_) | (show EvC _ _ _ _ _ _ _ _ _; refine W_con ?_ ?_) | (show RetQ _ _ (RP _ _) _ _; refine R_ret ?_ ?_) | (show FrzTo _ _ _ _; refine F_weak ?_) | refine Q_thenN ?_ | refine Q_thenR ?_ | fail)
  all_goals (try exact sd)
  all_goals (try refine F_done ?_)
  simp [hx, secs, pends]
instance i_disk_Budget (S : List (List UInt8)) (W : List (Int × List UInt8)) (L : Int) (O : Bool) (n : Int) : Con Try.prog 27 [diskD S W L O, .int .i64 n] (szP S W) (.tup [diskIf (mayP S W L ∧ -1 ≤ n) S W n O, .int .i64 (if mayP S W L ∧ -1 ≤ n then 0 else 1)]) := ⟨c_disk_Budget S  W  L  O  n ⟩
theorem mayP_at {S : List (List UInt8)} {W : List (Int × List UInt8)} {L : Int} (h : mayP S W L) : (∀ q ∈ W, 0 ≤ q.1 ∧ q.1 < (S.length : Int)) := fun q hq => ⟨(h.2.2.2 q hq).1, (h.2.2.2 q hq).2.1⟩
def crashS (S : List (List UInt8)) (W : List (Int × List UInt8)) (l : List Bool) : List (List UInt8) := doneS S W (fun k => keepsP l k)
theorem c_disk_Crash (S : List (List UInt8)) (W : List (Int × List UInt8)) (L : Int) (O : Bool) (l : List Bool) (hC : szP S W) : Pure Try.prog n_disk_Crash [diskD S W L O, .sl (boolsD l)] (diskIf (mayP S W L) (crashS S W l) [] (-1) false) := by
 refine Pure.go tok (rs := [.cell 4 25]) [diskD S W L O, .sl (boolsD l), .undef, .undef, .undef, .undef, .undef, .undef, .undef, .undef, .undef, .undef, .undef, .undef, .undef] Try.func28 (fun σ => ?_)
 by_cases hm : mayP S W L
 ·have ha := mayP_at hm
  have e : doneS S W (predN (crashPd l)) = crashS S W l := rfl
  repeat' (first | (show Ev _ _ _ _; first | refine Ev_seq ?_ | refine W_reg ?_) | (show EvD _ _ [] _ _ _; refine W_nil ?_) | (show EvD _ _ (_ :: _) _ _ _; refine W_run tok ?_ ?_) | fail)
  all_goals (try exact sd)
  all_goals (try refine F_done ?_)
  refine Q_thenN ?_
  refine Ev_fixS (σ.boxes.length + 1) (by (try simp only [app_get, app_get0, List.getElem?_cons_succ, List.getElem?_cons_zero]) <;> exact rfl) (by (try simp (disch := omega) only [List.map_cons, List.map_nil, bfz, bfz1, if_true, if_pos, if_neg, List.drop_zero]) <;> exact rfl) (by (try simp only [app_set, app_set0, List.set_cons_succ, List.set_cons_zero]) <;> exact rfl) ?_
  repeat' (first | (show Ev _ _ _ _; first | refine Ev_seq ?_ | refine W_reg ?_ | refine W_ifN ?_ | refine Ev_skip ?_ | refine Ev_ret ?_) | (show EvD _ _ [] _ _ _; refine W_nil ?_) | (show EvD _ _ (_ :: _) _ _ _; first | refine W_run tok ?_ ?_ (by simp (maxSteps := 1000000) (disch := omega) only [go_sem, e]; with_reducible exact rfl) | refine W_callee ?_) | (show EvC _ _ _ _ _ _ _ _ _; refine W_con ?_ ?_) | (show RetQ _ _ (RP _ _) _ _; refine R_ret ?_ ?_) | refine Q_thenN ?_ | fail)
  all_goals (try exact sd)
  all_goals (try refine F_done ?_)
  all_goals first
   | (simp [hm, secs, pends]; done)
   | exact ⟨hC.1, hC.2, ha, fun k h1 h2 => ⟨k, h1, rfl⟩⟩
 ·repeat' (first | (show Ev _ _ _ _; first | refine Ev_seq ?_ | refine W_reg ?_ | refine W_ifY ?_ | refine Ev_ret ?_) | (show EvD _ _ [] _ _ _; refine W_nil ?_) | (show EvD _ _ (_ :: _) _ _ _; first | refine W_run tok ?_ ?_ | refine W_callee ?_) | (show EvC _ _ _ _ _ _ _ _ _; refine W_con ?_ ?_) | (show RetQ _ _ (RP _ _) _ _; refine R_ret ?_ ?_) | (show FrzTo _ _ _ _; refine F_weak ?_) | refine Q_thenN ?_ | refine Q_thenR ?_ | fail)
  all_goals (try exact sd)
  all_goals (try refine F_done ?_)
  simp [hm, secs, pends]
instance i_disk_Crash (S : List (List UInt8)) (W : List (Int × List UInt8)) (L : Int) (O : Bool) (l : List Bool) : Con Try.prog 28 [diskD S W L O, .sl (boolsD l)] (szP S W) (diskIf (mayP S W L) (crashS S W l) [] (-1) false) := ⟨c_disk_Crash S  W  L  O  l ⟩
def flushS (S : List (List UInt8)) (W : List (Int × List UInt8)) : List (List UInt8) := doneS S W (fun _ => true)
def flushE (S : List (List UInt8)) (W : List (Int × List UInt8)) (L : Int) (O : Bool) : Int := if mayP S W L then (if spendB L O then 0 else 10) else 1
abbrev flushD (S : List (List UInt8)) (W : List (Int × List UInt8)) (L : Int) (O : Bool) : DV := diskD (if flushE S W L O = 0 then flushS S W else if flushE S W L O = 10 then S else []) (if flushE S W L O = 10 then W else []) (if flushE S W L O = 1 then 0 else spendL L O) (decide (flushE S W L O = 10))
theorem c_disk_Flush (S : List (List UInt8)) (W : List (Int × List UInt8)) (L : Int) (O : Bool) (hC : szP S W ∧ L < 9223372036854775808) : Pure Try.prog n_disk_Flush [diskD S W L O] (.tup [flushD S W L O, .int .i64 (flushE S W L O)]) := by
 refine Pure.go tok (rs := [.cell 2 25, .tmp 3]) [diskD S W L O, .undef, .undef, .undef, .undef, .undef, .undef, .undef, .undef, .undef, .undef, .undef, .undef] Try.func33 (fun σ => ?_)
 by_cases hm : mayP S W L
 ·have ha := mayP_at hm
  have hL := hm.2.1
  have e : doneS S W (predN fun x => true) = flushS S W := rfl
  cases hs : spendB L O with
  | true =>
   have hE : flushE S W L O = 0 := by simp [flushE, hm, hs]
   repeat' (first | (show Ev _ _ _ _; first | refine Ev_seq ?_ | refine W_reg ?_ | refine W_ifF ?_ | refine W_ifN ?_ | refine Ev_skip ?_ | refine Ev_ret ?_) | (show EvD _ _ [] _ _ _; refine W_nil ?_) | (show EvD _ _ (_ :: _) _ _ _; first | refine W_run tok ?_ ?_ (by simp (maxSteps := 1000000) (disch := omega) only [go_sem, hs, e]; with_reducible exact rfl) | refine W_callee ?_) | (show EvC _ _ _ _ _ _ _ _ _; first | refine W_con ?_ ?_ | refine W_box ?_) | (show EvB _ _ _ _ _ _ _ _ _ _ _ _; refine W_conP ?_ ?_) | (show RetQ _ _ (RP _ _) _ _; refine R_ret ?_ ?_) | refine Q_thenN ?_ | fail)
   all_goals (try exact sd)
   all_goals (try refine F_done ?_)
   all_goals first
    | (simp [hE, pends]; done)
    | exact ⟨hC.1.1, hC.1.2, ha, fun k h1 h2 => ⟨k, rfl⟩⟩
  | false =>
   have hE : flushE S W L O = 10 := by simp [flushE, hm, hs]
   repeat' (first | (show Ev _ _ _ _; first | refine Ev_seq ?_ | refine W_reg ?_ | refine W_ifT ?_ | refine W_ifN ?_ | refine Ev_skip ?_ | refine Ev_ret ?_) | (show EvD _ _ [] _ _ _; refine W_nil ?_) | (show EvD _ _ (_ :: _) _ _ _; first | refine W_run tok ?_ ?_ (by simp (maxSteps := 1000000) (disch := omega) only [go_sem, hs]; with_reducible exact rfl) | refine W_callee ?_) | (show EvC _ _ _ _ _ _ _ _ _; first | refine W_con ?_ ?_ | refine W_box ?_) | (show EvB _ _ _ _ _ _ _ _ _ _ _ _; refine W_conP ?_ ?_) | (show RetQ _ _ (RP _ _) _ _; refine R_ret ?_ ?_) | refine Q_thenN ?_ | refine Q_thenR ?_ | fail)
   all_goals (try exact sd)
   all_goals (try refine F_done ?_)
   all_goals first
    | (simp [hE, pends]; done)
 ·have hE : flushE S W L O = 1 := by simp [flushE, hm]
  repeat' (first | (show Ev _ _ _ _; first | refine Ev_seq ?_ | refine W_reg ?_ | refine W_ifY ?_ | refine Ev_ret ?_) | (show EvD _ _ [] _ _ _; refine W_nil ?_) | (show EvD _ _ (_ :: _) _ _ _; first | refine W_run tok ?_ ?_ | refine W_callee ?_) | (show EvC _ _ _ _ _ _ _ _ _; refine W_con ?_ ?_) | (show RetQ _ _ (RP _ _) _ _; refine R_ret ?_ ?_) | (show FrzTo _ _ _ _; refine F_weak ?_) | refine Q_thenN ?_ | refine Q_thenR ?_ | fail)
  all_goals (try exact sd)
  all_goals (try refine F_done ?_)
  simp [hE, secs, pends]
instance i_disk_Flush (S : List (List UInt8)) (W : List (Int × List UInt8)) (L : Int) (O : Bool) : Con Try.prog 33 [diskD S W L O] (szP S W ∧ L < 9223372036854775808) (.tup [flushD S W L O, .int .i64 (flushE S W L O)]) := ⟨c_disk_Flush S  W  L  O ⟩
end Go.Val.Ytlfnmgmbmgacgaa
