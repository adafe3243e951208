/- Chapter 04: the disk's calls, walked. -/
import Derived.Test.YtlfnmgmbmgacgaaD04b
namespace Go.Val.Ytlfnmgmbmgacgaa
open Go Go.Val Go.Proofs Go.Proofs.Ytlfnmgmbmgacgaa
attribute [local irreducible] Ev EvD EvC thenQ blockQ RoundG RetQ
set_option maxRecDepth 100000
set_option maxHeartbeats 4000000
set_option linter.unusedSimpArgs false
set_option linter.unusedVariables false
theorem c_disk_there (S : List (List UInt8)) (W : List (Int × List UInt8)) (L : Int) (O : Bool) (i n : Int) (hC : S.length < 1099511627776) : Pure Try.prog n_disk_there [diskD S W L O, .int .i64 i, .int .i64 n] (.bool (decide (0 ≤ i ∧ 0 ≤ n ∧ i ≤ S.length ∧ n ≤ S.length - i))) := by
 refine Pure.go tok (rs := [.tmp 6]) [diskD S W L O, .int .i64 i, .int .i64 n, .undef, .undef, .undef, .undef, .undef, .undef, .undef, .undef, .undef, .undef, .undef, .undef, .undef, .undef, .undef, .undef, .undef, .undef, .undef, .undef, .undef, .undef, .undef, .undef, .undef, .undef] Try.func69 (fun σ => ?_)
 repeat' (first | (show Ev _ _ _ _; first | refine Ev_seq ?_ | refine W_reg ?_ | refine Ev_ret ?_) | (show EvD _ _ [] _ _ _; refine W_nil ?_) | (show EvD _ _ (⟨_, _, _, _, _, some _⟩ :: _) _ _ _; refine W_grdP (fun h => ?_) (fun h => ?_)) | (show EvD _ _ (_ :: _) _ _ _; first | refine W_run tok ?_ ?_ (by simp (maxSteps := 1000000) (disch := omega) only [go_sem, wrap_i64_id]; with_reducible exact rfl)) | (show RetQ _ _ (RP _ _) _ _; refine R_ret ?_ ?_) | refine Q_thenN ?_ | fail)
 all_goals (try exact sd)
 all_goals (try refine F_done ?_)
 all_goals (try first | rfl | (exfalso; omega) | (simp only [DV.bool.injEq, DV.int.injEq, DV.str.injEq, DV.sl.injEq, DV.agg.injEq, DV.tup.injEq, List.cons.injEq, decide_eq_decide, decide_eq_true_eq, decide_eq_false_iff_not, true_and, and_true]; first | done | omega) | (simp; first | done | omega))
instance i_disk_there (S : List (List UInt8)) (W : List (Int × List UInt8)) (L : Int) (O : Bool) (i n : Int) : Con Try.prog 69 [diskD S W L O, .int .i64 i, .int .i64 n] (S.length < 1099511627776) (.bool (decide (0 ≤ i ∧ 0 ≤ n ∧ i ≤ S.length ∧ n ≤ S.length - i))) := ⟨c_disk_there S  W  L  O  i n ⟩
def spendB (L : Int) (O : Bool) : Bool := !O && !decide (L = 0)
def spendL (L : Int) (O : Bool) : Int := if spendB L O = true ∧ L > 0 then L - 1 else L
theorem c_disk_spend (s w : DV) (L : Int) (O : Bool) (hC : -2 < L ∧ L < 9223372036854775808) : ∀ (σ : Store) (b : Nat), σ.boxes[b]? = some (some ⟨25, [s, w, .int .i64 L, .bool O]⟩) → Does Try.prog n_disk_spend (.ptr b 0 :: []) σ (one ((.bool (spendB L O) : DV).ren (σ.rows.length + ·) (σ.boxes.length + ·) (σ.maps.length + ·)) ((⟨σ.rows, σ.boxes.set b (some ⟨25, [s, w, .int .i64 (spendL L O), .bool (!spendB L O)]⟩), σ.maps⟩ : Store).plus [] [] [])) := by
 refine FxP.go tok (rv := [.tmp 2]) (fun b => [.ptr b 0, .undef, .undef, .undef, .undef, .undef, .undef, .undef, .undef, .undef, .undef, .undef, .undef, .undef, .undef, .undef, .undef, .undef, .undef, .undef, .undef, .undef, .undef, .undef, .undef, .undef, .undef, .undef, .undef, .undef, .undef, .undef, .undef, .undef, .undef, .undef, .undef, .undef, .undef, .undef, .undef]) Try.func54 (fun σ b hb hB => ?_)
 repeat' (first | (show Ev _ _ _ _; first | refine Ev_seq ?_ | refine W_reg ?_ | refine W_ifF ?_ | refine W_ifP (fun h => ?_) (fun h => ?_) | refine Ev_skip ?_ | refine Ev_ret ?_) | (show EvD _ _ [] _ _ _; refine W_nil ?_) | (show EvD _ _ (⟨_, _, _, _, _, some _⟩ :: _) _ _ _; first | refine W_grdP (fun h => ?_) (fun h => ?_) | refine W_grdB (fun h => ?_) (fun h => ?_)) | (show EvD _ _ (_ :: _) _ _ _; first | refine W_run tok ?_ ?_ (by simp (maxSteps := 1000000) (disch := omega) only [go_sem, wrap_i64_id, hB, List.getElem?_set_self, List.set_set]; with_reducible exact rfl)) | (show RetQ _ _ (RX _ ⟨_, List.set _ _ _, _⟩ _ [] [] []) _ _; refine R_p0 ?_ ?_ ?_) | refine Q_thenN ?_ | fail)
 all_goals (try exact sd)
 all_goals (try refine F_done ?_)
 all_goals cases O
 all_goals (simp_all [spendB, spendL])
 all_goals (first | omega | skip)
instance i_disk_spend (s w : DV) (L : Int) (O : Bool) : ConP Try.prog 54 [] 25 [s, w, .int .i64 L, .bool O] (-2 < L ∧ L < 9223372036854775808) (.bool (spendB L O)) ([s, w, .int .i64 (spendL L O), .bool (!spendB L O)]) ([]) ([]) ([]) := ⟨c_disk_spend s w  L  O ⟩
end Go.Val.Ytlfnmgmbmgacgaa
