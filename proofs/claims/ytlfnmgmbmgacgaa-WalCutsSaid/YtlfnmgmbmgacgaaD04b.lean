/- Chapter 04: whether disks may be, walked. -/
import Derived.Test.YtlfnmgmbmgacgaaD04a
namespace Go.Val.Ytlfnmgmbmgacgaa
open Go Go.Val Go.Proofs Go.Proofs.Ytlfnmgmbmgacgaa
attribute [local irreducible] Ev EvD EvC thenQ blockQ RoundG RetQ
set_option maxRecDepth 100000
set_option maxHeartbeats 4000000
set_option linter.unusedSimpArgs false
set_option linter.unusedVariables false
def mayP (S : List (List UInt8)) (W : List (Int × List UInt8)) (L : Int) : Prop := (1 ≤ S.length ∧ S.length ≤ 4096) ∧ -1 ≤ L ∧ (∀ b ∈ S, b.length = 64) ∧ ∀ p ∈ W, 0 ≤ p.1 ∧ p.1 < S.length ∧ p.2.length = 64
instance (S : List (List UInt8)) (W : List (Int × List UInt8)) (L : Int) : Decidable (mayP S W L) := by unfold mayP; infer_instance
def secBad : DV → Bool
 | .sl xs => !decide ((xs.length : Int) = 64)
 | _ => false
def pendBad (n : Int) : DV → Bool
 | .agg [.int _ i, .sl xs] => decide (i < 0) || decide (i ≥ n) || !decide ((xs.length : Int) = 64)
 | _ => false
theorem any_secs (S : List (List UInt8)) : (secs S).any secBad = !decide (∀ b ∈ S, b.length = 64) := by
 rw [Bool.eq_iff_iff]
 simp only [secs, List.any_map, List.any_eq_true, Function.comp, secD, secBad, bytes_len, Bool.not_eq_true', decide_eq_false_iff_not, Classical.not_forall]
 constructor
 ·rintro ⟨x, h1, h2⟩; exact ⟨x, h1, by omega⟩
 ·rintro ⟨x, h1, h2⟩; exact ⟨x, h1, by omega⟩
theorem any_pends (n : Nat) (W : List (Int × List UInt8)) : (pends W).any (pendBad n) = !decide (∀ p ∈ W, 0 ≤ p.1 ∧ p.1 < n ∧ p.2.length = 64) := by
 rw [Bool.eq_iff_iff]
 simp only [pends, List.any_map, List.any_eq_true, Function.comp, pendD, pendBad, bytes_len, Bool.not_eq_true', decide_eq_false_iff_not, Classical.not_forall, Bool.or_eq_true, decide_eq_true_eq]
 constructor
 ·rintro ⟨x, h1, h2⟩; exact ⟨x, h1, by omega⟩
 ·rintro ⟨x, h1, h2⟩; exact ⟨x, h1, by omega⟩
theorem secs_ok {S : List (List UInt8)} (h : S.length < 1099511627776) : ((secs S).length < 1099511627776 ∧ ∀ x ∈ secs S, x.cells = [x]) ∧ ∀ x ∈ secs S, ∃ b, x = .sl (bytes b) := by
 refine ⟨⟨by rw [secs_len]; exact h, fun x hx => ?_⟩, fun x hx => ?_⟩
 ·obtain ⟨b, _, rfl⟩ := List.mem_map.1 hx; rfl
 ·obtain ⟨b, _, rfl⟩ := List.mem_map.1 hx; exact ⟨b, rfl⟩
theorem pends_ok {W : List (Int × List UInt8)} (h : W.length < 1099511627776) : ((pends W).length < 1099511627776 ∧ ∀ x ∈ pends W, ∃ a b, x = .agg [a, b]) ∧ ∀ x ∈ pends W, ∃ i b, x = .agg [.int .i64 i, .sl (bytes b)] := by
 refine ⟨⟨by rw [pends_len]; exact h, fun x hx => ?_⟩, fun x hx => ?_⟩
 ·obtain ⟨b, _, rfl⟩ := List.mem_map.1 hx; exact ⟨_, _, rfl⟩
 ·obtain ⟨b, _, rfl⟩ := List.mem_map.1 hx; exact ⟨_, _, rfl⟩
theorem c_disk_May_1 (b : List UInt8) (hC : True) : Pure Try.prog n_disk_May_1 [.sl (bytes b)] (.bool (decide ((b.length : Int) = 64))) := by
 refine Pure.go tok (rs := [.tmp 2]) [.sl (bytes b), .undef, .undef, .undef, .undef, .undef] Try.func56 (fun σ => ?_)
 repeat' (first | (show Ev _ _ _ _; first | refine Ev_seq ?_ | refine W_reg ?_ | refine Ev_ret ?_) | (show EvD _ _ [] _ _ _; refine W_nil ?_) | (show EvD _ _ (_ :: _) _ _ _; refine W_run tok ?_ ?_) | (show RetQ _ _ (RP _ _) _ _; refine R_ret ?_ ?_) | refine Q_thenN ?_ | fail)
 all_goals (try exact sd)
 all_goals (try refine F_done ?_)
 all_goals rfl
instance i_disk_May_1 (b : List UInt8) : Con Try.prog 56 [.sl (bytes b)] (True) (.bool (decide ((b.length : Int) = 64))) := ⟨c_disk_May_1 b ⟩
theorem c_disk_May_2 (b : List UInt8) (hC : True) : Pure Try.prog n_disk_May_2 [.sl (bytes b), .cp [.fn (.func 56) [] []]] (.bool (!decide ((b.length : Int) = 64))) := by
 refine Pure.go tok (rs := [.tmp 3]) [.sl (bytes b), .cp [.fn (.func 56) [] []], .undef, .undef, .undef, .undef, .undef, .undef] Try.func58 (fun σ => ?_)
 repeat' (first | (show Ev _ _ _ _; first | refine Ev_seq ?_ | refine W_reg ?_ | refine Ev_ret ?_) | (show EvD _ _ [] _ _ _; refine W_nil ?_) | (show EvD _ _ (_ :: _) _ _ _; first | refine W_run tok ?_ ?_ | refine W_callee ?_) | (show EvC _ _ _ _ _ _ _ _ _; refine W_con ?_ ?_) | (show RetQ _ _ (RP _ _) _ _; refine R_ret ?_ ?_) | refine Q_thenN ?_ | fail)
 all_goals (try exact sd)
 all_goals (try refine F_done ?_)
 all_goals rfl
instance i_disk_May_2 (b : List UInt8) : Con Try.prog 58 [.sl (bytes b), .cp [.fn (.func 56) [] []]] (True) (.bool (!decide ((b.length : Int) = 64))) := ⟨c_disk_May_2 b ⟩
instance p_May_2 : PredC Try.prog 58 [] [.cp [.fn (.func 56) [] []]] (fun x => ∃ b, x = .sl (bytes b)) secBad :=
 .of at_disk_May_2 (by rintro x ⟨b, rfl⟩; simp only [secBad, bytes_len]; exact c_disk_May_2 b trivial)
theorem c_disk_May_3 (i : Int) (b : List UInt8) (S : List (List UInt8)) (W : List (Int × List UInt8)) (L : Int) (O : Bool) (hC : True) : Pure Try.prog n_disk_May_3 [.agg [.int .i64 i, .sl (bytes b)], .cp [.sl (secs S), .sl (pends W), .int .i64 L, .bool O], .cp [.fn (.func 56) [] []]] (.bool (decide (i < 0) || decide (i ≥ S.length) || !decide ((b.length : Int) = 64))) := by
 refine Pure.go tok (rs := [.tmp 4]) [.agg [.int .i64 i, .sl (bytes b)], .cp [.sl (secs S), .sl (pends W), .int .i64 L, .bool O], .cp [.fn (.func 56) [] []], .undef, .undef, .undef, .undef, .undef, .undef, .undef, .undef, .undef, .undef, .undef, .undef, .undef, .undef, .undef, .undef, .undef, .undef, .undef, .undef] Try.func60 (fun σ => ?_)
 repeat' (first | (show Ev _ _ _ _; first | refine Ev_seq ?_ | refine W_reg ?_ | refine Ev_ret ?_) | (show EvD _ _ [] _ _ _; refine W_nil ?_) | (show EvD _ _ (⟨_, _, _, _, _, some _⟩ :: _) _ _ _; refine W_grdP (fun h => ?_) (fun h => ?_)) | (show EvD _ _ (_ :: _) _ _ _; first | refine W_run tok ?_ ?_ | refine W_callee ?_) | (show EvC _ _ _ _ _ _ _ _ _; refine W_con ?_ ?_) | (show RetQ _ _ (RP _ _) _ _; refine R_ret ?_ ?_) | refine Q_thenN ?_ | fail)
 all_goals (try exact sd)
 all_goals (try refine F_done ?_)
 all_goals (simp [*]; try omega)
instance i_disk_May_3 (i : Int) (b : List UInt8) (S : List (List UInt8)) (W : List (Int × List UInt8)) (L : Int) (O : Bool) : Con Try.prog 60 [.agg [.int .i64 i, .sl (bytes b)], .cp [.sl (secs S), .sl (pends W), .int .i64 L, .bool O], .cp [.fn (.func 56) [] []]] (True) (.bool (decide (i < 0) || decide (i ≥ S.length) || !decide ((b.length : Int) = 64))) := ⟨c_disk_May_3 i  b  S  W  L  O ⟩
instance p_May_3 (S : List (List UInt8)) (W : List (Int × List UInt8)) (L : Int) (O : Bool) : PredC Try.prog 60 [] [.cp [.sl (secs S), .sl (pends W), .int .i64 L, .bool O], .cp [.fn (.func 56) [] []]] (fun x => ∃ i b, x = .agg [.int .i64 i, .sl (bytes b)]) (pendBad S.length) :=
 .of at_disk_May_3 (by rintro x ⟨i, b, rfl⟩; simp only [pendBad, bytes_len]; exact c_disk_May_3 i b S W L O trivial)
theorem c_disk_May (S : List (List UInt8)) (W : List (Int × List UInt8)) (L : Int) (O : Bool) (hC : S.length < 1099511627776 ∧ W.length < 1099511627776) : Pure Try.prog n_disk_May [diskD S W L O] (.bool (decide (mayP S W L))) := by
 refine Pure.go tok (rs := [.tmp 2]) [diskD S W L O, .undef, .undef, .undef, .undef, .undef, .undef, .undef, .undef, .undef, .undef, .undef, .undef, .undef, .undef, .undef, .undef, .undef, .undef, .undef, .undef, .undef, .undef, .undef, .undef, .undef, .undef, .undef] Try.func35 (fun σ => ?_)
 repeat' (first | (show Ev _ _ _ _; first | refine Ev_seq ?_ | refine W_reg ?_) | (show EvD _ _ [] _ _ _; refine W_nil ?_) | (show EvD _ _ (_ :: _) _ _ _; refine W_run tok ?_ ?_) | fail)
 all_goals (try exact sd)
 all_goals (try refine F_done ?_)
 refine Q_thenN ?_
 repeat' (first | (show Ev _ _ _ _; first | refine Ev_seq ?_ | refine W_reg ?_) | (show EvD _ _ [] _ _ _; refine W_nil ?_) | (show EvD _ _ (_ :: _) _ _ _; refine W_run tok ?_ ?_) | fail)
 all_goals (try exact sd)
 all_goals (try refine F_done ?_)
 refine Q_thenN ?_
 refine Ev_fixS σ.boxes.length (by (try simp only [app_get, app_get0, List.getElem?_cons_succ, List.getElem?_cons_zero]) <;> exact rfl) (by (try simp (disch := omega) only [List.map_cons, List.map_nil, bfz, bfz1, if_true, if_pos, if_neg, List.drop_zero]) <;> exact rfl) (by (try simp only [app_set, app_set0, List.set_cons_succ, List.set_cons_zero]) <;> exact rfl) ?_
 refine Ev_fixS (σ.boxes.length + 1) (by (try simp only [app_get, app_get0, List.getElem?_cons_succ, List.getElem?_cons_zero]) <;> exact rfl) (by (try simp (disch := omega) only [List.map_cons, List.map_nil, bfz, bfz1, if_true, if_pos, if_neg, List.drop_zero]) <;> exact rfl) (by (try simp only [app_set, app_set0, List.set_cons_succ, List.set_cons_zero]) <;> exact rfl) ?_
 repeat' (first | (show Ev _ _ _ _; first | refine Ev_seq ?_ | refine W_reg ?_ | refine W_ifT ?_ | refine W_ifP (fun h => ?_) (fun h => ?_) | refine W_ifB (fun h => ?_) (fun h => ?_) | refine Ev_skip ?_ | refine Ev_ret ?_) | (show EvD _ _ [] _ _ _; refine W_nil ?_) | (show EvD _ _ (⟨_, _, _, _, _, some _⟩ :: _) _ _ _; refine W_grdP (fun h => ?_) (fun h => ?_)) | (show EvD _ _ (_ :: _) _ _ _; first | refine W_run tok ?_ ?_ | refine W_callee ?_) | (show EvC _ _ _ _ _ _ _ _ _; refine W_con ?_ ?_) | (show RetQ _ _ (RP _ _) _ _; refine R_ret ?_ ?_) | refine Q_thenN ?_ | refine Q_thenR ?_ | fail)
 all_goals (try exact sd)
 all_goals (try refine F_done ?_)
 all_goals first
  | exact secs_ok hC.1
  | exact pends_ok hC.2
  | skip
 all_goals try rw [any_secs] at *
 all_goals try rw [any_pends]
 all_goals refine congrArg DV.bool ?_
 all_goals rw [Bool.eq_iff_iff]
 all_goals simp only [decide_eq_true_eq, Bool.not_eq_true', decide_eq_false_iff_not, Bool.not_eq_false', Bool.false_eq_true, false_iff, Classical.not_not] at *
 all_goals simp only [mayP]
 ·omega
 ·omega
 ·omega
 ·exact fun hm => h hm.2.2.1
 ·constructor
  ·exact fun hp => ⟨by omega, by omega, h, hp⟩
  ·exact fun hp => hp.2.2.2
instance i_disk_May (S : List (List UInt8)) (W : List (Int × List UInt8)) (L : Int) (O : Bool) : Con Try.prog 35 [diskD S W L O] (S.length < 1099511627776 ∧ W.length < 1099511627776) (.bool (decide (mayP S W L))) := ⟨c_disk_May S  W  L  O ⟩
end Go.Val.Ytlfnmgmbmgacgaa
