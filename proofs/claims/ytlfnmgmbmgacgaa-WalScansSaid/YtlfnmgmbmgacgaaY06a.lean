/- Chapter 06: the document's writes and flushes, walked. -/
import Derived.Test.YtlfnmgmbmgacgaaX06e
namespace Go.Val
open Go.RowKit
set_option linter.unusedSimpArgs false
set_option linter.unusedVariables false
section
variable {P : Program} {σ : Store}
theorem Does.stay {f : FuncId} {args : List DV} {d : DV} (hd : d.named σ.rows.length σ.boxes.length σ.maps.length = true) (h : Does P f args σ (RP σ d)) : Does P f args σ (one d σ) := by
 have h2 : Does P f args σ (fun r σ' => r = d ∧ ∃ rs bs ms, σ' = ⟨σ.rows ++ rs, σ.boxes ++ bs, σ.maps ++ ms⟩) := by
  intro w0 G vs w hS hr
  refine (h w0 G vs w hS hr).mono ?_
  rintro e w' ⟨v, r, σ', G', he, ⟨hf, hg⟩, hS', hE, hv⟩
  obtain ⟨G2, σ2, k1, k2, k3, k4⟩ := frzTo_run hf hg hS' hv
  exact ⟨v, d, σ2, G2, he, ⟨rfl, k4.out⟩, k1, hE.trans k2, k3⟩
 refine (Does.clean h2 ?_).mono ?_
 ·rintro r σ' ⟨rfl, rs, bs, ms, rfl⟩
  refine ⟨hd, ⟨fun id R h => .inl ?_, fun id B h => .inl ?_, fun id M h => .inl ?_⟩⟩
  ·simpa [Store.trunc] using h
  ·simpa [Store.trunc] using h
  ·simpa [Store.trunc] using h
 ·rintro r τ ⟨σ', ⟨rfl, rs, bs, ms, rfl⟩, rfl⟩
  exact ⟨rfl, by simp [Store.trunc]⟩
end
end Go.Val
namespace Go.Val.Ytlfnmgmbmgacgaa
open Go Go.Val Go.Proofs Go.Proofs.Ytlfnmgmbmgacgaa
attribute [local irreducible] Ev EvD EvC thenQ blockQ RoundG RetQ
set_option maxRecDepth 100000
set_option maxHeartbeats 4000000
set_option linter.unusedSimpArgs false
set_option linter.unusedVariables false
theorem c_spent (s w : DV) (L : Int) (O : Bool) (hL : -2 < L) (hL2 : L < 9223372036854775808) (σ : Store) (hn : nameds σ.rows.length σ.boxes.length σ.maps.length [s, w] = true) (hcell : ∀ τ : Store, τ.rows = σ.rows → Cell1 τ s ∧ Cell1 τ w) :
  Does Try.prog n_bursarref04_spent [.agg [s, w, .int .i64 L, .bool O]] σ (one (.tup [.agg [s, w, .int .i64 (spendL L O), .bool (!spendB L O)], .bool (spendB L O)]) σ) := by
 refine Does.stay (by simp only [nameds, Bool.and_true, Bool.and_eq_true] at hn; simp [DV.named, nameds, hn]) ?_
 refine Does.go tok (rs := [.cell 2 25, .tmp 3]) [.agg [s, w, .int .i64 L, .bool O], .undef, .undef, .undef, .undef, .undef, .undef, .undef, .undef, .undef, .undef, .undef, .undef, .undef, .undef, .undef, .undef, .undef, .undef, .undef, .undef] Try.func45 ?_
 cases O
 ·by_cases h0 : L = 0
  ·subst h0
   repeat' (first | (show Ev _ _ _ _; first | refine Ev_seq ?_ | refine W_reg ?_ | refine W_ifT ?_ | refine Ev_ret ?_) | (show EvD _ _ [] _ _ _; refine W_nil ?_) | (show EvD _ _ (_ :: _) _ _ _; first | refine W_run tok ?_ ?_ (by simp (maxSteps := 1000000) (disch := omega) only [go_sem, wrap_i64_id]; with_reducible exact rfl)) | (show RetQ _ _ (RP _ _) _ _; refine R_ret ?_ ?_) | refine Q_thenN ?_ | refine Q_thenR ?_ | fail)
   all_goals (try exact sd)
   all_goals (try refine F_done ?_)
   all_goals (first | rfl | exact hcell _ rfl | (simp [spendB, spendL]; done) | trace_state)
  ·have d0 : decide (L = 0) = false := decide_eq_false h0
   have e1 : spendB L false = true := by simp [spendB, h0]
   by_cases h1 : L > 0
   ·have e2 : spendL L false = L - 1 := by unfold spendL; rw [e1, if_pos ⟨rfl, h1⟩]
    rw [e1, e2]
    repeat' (first | (show Ev _ _ _ _; first | refine Ev_seq ?_ | refine W_reg ?_ | refine W_ifF ?_ | refine W_ifY ?_ | refine Ev_skip ?_ | refine Ev_ret ?_) | (show EvD _ _ [] _ _ _; refine W_nil ?_) | (show EvD _ _ (_ :: _) _ _ _; first | refine W_run tok ?_ ?_ (by simp (maxSteps := 1000000) (disch := omega) only [go_sem, wrap_i64_id, d0]; with_reducible exact rfl)) | (show RetQ _ _ (RP _ _) _ _; refine R_ret ?_ ?_) | refine Q_thenN ?_ | fail)
    all_goals (try exact sd)
    all_goals (try refine F_done ?_)
    all_goals (first | rfl | exact hcell _ rfl | trace_state)
   ·have e2 : spendL L false = L := by unfold spendL; rw [if_neg (fun h => h1 h.2)]
    rw [e1, e2]
    repeat' (first | (show Ev _ _ _ _; first | refine Ev_seq ?_ | refine W_reg ?_ | refine W_ifF ?_ | refine W_ifN ?_ | refine Ev_skip ?_ | refine Ev_ret ?_) | (show EvD _ _ [] _ _ _; refine W_nil ?_) | (show EvD _ _ (_ :: _) _ _ _; first | refine W_run tok ?_ ?_ (by simp (maxSteps := 1000000) (disch := omega) only [go_sem, wrap_i64_id, d0]; with_reducible exact rfl)) | (show RetQ _ _ (RP _ _) _ _; refine R_ret ?_ ?_) | refine Q_thenN ?_ | fail)
    all_goals (try exact sd)
    all_goals (try refine F_done ?_)
    all_goals (first | rfl | exact hcell _ rfl | trace_state)
 ·have e1 : spendB L true = false := by simp [spendB]
  have e2 : spendL L true = L := by unfold spendL; rw [e1]; simp
  rw [e1, e2]
  repeat' (first | (show Ev _ _ _ _; first | refine Ev_seq ?_ | refine W_reg ?_ | refine W_ifT ?_ | refine Ev_ret ?_) | (show EvD _ _ [] _ _ _; refine W_nil ?_) | (show EvD _ _ (_ :: _) _ _ _; first | refine W_run tok ?_ ?_ (by simp (maxSteps := 1000000) (disch := omega) only [go_sem, wrap_i64_id]; with_reducible exact rfl)) | (show RetQ _ _ (RP _ _) _ _; refine R_ret ?_ ?_) | refine Q_thenN ?_ | refine Q_thenR ?_ | fail)
  all_goals (try exact sd)
  all_goals (try refine F_done ?_)
  all_goals (first | rfl | exact hcell _ rfl | trace_state)
end Go.Val.Ytlfnmgmbmgacgaa
