/- Chapter 06: the chapter's examples, walked. -/
import Derived.Test.YtlfnmgmbmgacgaaX06a
import Derived.Test.YtlfnmgmbmgacgaaVM6
namespace Go.Val.Ytlfnmgmbmgacgaa
open Go Go.Val Go.Proofs Go.Proofs.Ytlfnmgmbmgacgaa
attribute [local irreducible] Ev EvD EvC thenQ blockQ RoundG RetQ
set_option maxRecDepth 100000
set_option maxHeartbeats 4000000
set_option linter.unusedSimpArgs false
set_option linter.unusedVariables false
def z200 : List UInt8 := List.replicate 200 0
theorem z200_eq : List.replicate 200 (0 : UInt8) = z200 := rfl
theorem z200_eq2 : List.replicate 200 (DV.int .u8 0) = bytes z200 := by simp [z200, bytes]
theorem z200_len : z200.length = 200 := by decide
def S4 : List (List UInt8) := [layF 1 [97, 98, 99], List.replicate 64 0, List.replicate 64 0, List.replicate 64 0]
theorem app1 : appR (newS 4, [], -1, false) 0 4 0 1 [97, 98, 99] = ((S4, [], -1, false), (0, 4, 1, 2), 0) := by decide +kernel
theorem scan1 : scanR (newS 4) [] (-1) false 0 4 0 1 = ([], (0, 4, 0, 1), 0) := by decide +kernel
theorem scan2 : scanR S4 [] (-1) false 0 4 0 1 = ([(1, [97, 98, 99])], (0, 4, 1, 2), 0) := by decide +kernel
theorem app2 : appR (S4, [], -1, false) 0 4 1 2 z200 = (zeroK, zeroL, 9) := by decide +kernel
attribute [local irreducible] z200 S4
theorem c_bursarlaw06_awake  (hC : True) : Pure Try.prog n_bursarlaw06_awake [] (.bool true) := by
 refine Pure.go tok (rs := [.tmp 0]) [.undef, .undef, .undef, .undef, .undef, .undef, .undef, .undef, .undef, .undef, .undef, .undef, .undef, .undef, .undef, .undef, .undef, .undef, .undef, .undef, .undef, .undef, .undef, .undef, .undef, .undef, .undef, .undef, .undef, .undef, .undef, .undef, .undef, .undef, .undef, .undef, .undef, .undef, .undef, .undef, .undef, .undef, .undef, .undef, .undef, .undef, .undef, .undef, .undef, .undef, .undef, .undef, .undef, .undef, .undef, .undef, .undef, .undef, .undef, .undef, .undef, .undef, .undef, .undef, .undef, .undef, .undef, .undef, .undef] Try.func17 (fun σ => ?_)
 have i1 : Con Try.prog 10 [diskD (newS 4) [] (-1) false, logD 0 4 0 1, .sl (bytes [97, 98, 99])] True (.tup [diskD S4 [] (-1) false, logD 0 4 1 2, .int .i64 0]) := con_eq (i_wal_Append (newS 4) [] (-1) false 0 4 0 1 [97, 98, 99]) (by decide) (by rw [app1])
 have i1 : Con Try.prog 10 [diskD (newS 4) [] (-1) false, logD 0 4 0 1, .sl [.int .u8 97, .int .u8 98, .int .u8 99]] True (.tup [diskD S4 [] (-1) false, logD 0 4 1 2, .int .i64 0]) := i1
 have i2 : Con Try.prog 21 [diskD S4 [] (-1) false, logD 0 4 0 1] True (.tup [.sl (pends [(1, [97, 98, 99])]), logD 0 4 1 2, .int .i64 0]) := con_eq (i_wal_Scan S4 [] (-1) false 0 4 0 1) (by decide +kernel) (by rw [scan2])
 have i3 : Con Try.prog 10 [diskD S4 [] (-1) false, logD 0 4 1 2, .sl (bytes z200)] True (.tup [diskD [] [] 0 false, logD 0 0 0 0, .int .i64 9]) := con_eq (i_wal_Append S4 [] (-1) false 0 4 1 2 z200) (by rw [z200_len]; decide +kernel) (by rw [app2]; rfl)
 have i4 : Con Try.prog 18 [.int .i64 4] True (diskD (newS 4) [] (-1) false) := con_eq (i_bursarlaw06_some 4) (by decide) rfl
 have hg : (pends [((1 : Int), ([97, 98, 99] : List UInt8))]).getD 0 .undef = .agg [.int .i64 1, .sl (bytes [97, 98, 99])] := rfl
 repeat' (first | (show Ev _ (.region 2 _ true) _ _; refine D_startL [9, 49, 51, 54, 65, 68, 99999] [⟨9, 2, 25⟩, ⟨10, 3, 27⟩] [⟨2, 3, 15, 28, 5⟩] [none, none, none, some 15, none, none, none, none, none, none, none, none, none, none] [false, false, false, false, false, false, false, false, false, true, true, false, false, false] [false, false, false, false, false, false, false, false, false, true, true, false] mix tok (LitB_cons (by simp only [opAt, List.getElem?_cons_succ, List.getElem?_cons_zero]; exact rfl) (fun σ s => by simp (disch := omega) only [go_sem]; with_reducible exact rfl) (fun σ s => by first | trivial | simp) LitB_nil) ?_) | (show Ev _ (.region 4 _ true) _ _; refine D_startC [9, 49, 51, 54, 65, 68, 99999] [⟨8, 8, 25⟩, ⟨9, 9, 27⟩] [false, false, false, false, false, false, false, false, true, true, false, false, false] [false, false, false, false, false, false, false, false, true, true, false] mix tok ?_) | (show DrD _ (EP _) _ (_ :: _) _ _ _ _; first | refine D_runLP tok ?_ ?_ (h := by intro R r M; simp (maxSteps := 1000000) (disch := omega) only [go_sem, wrap_i64_id, z200_eq, z200_eq2, hg]; with_reducible exact rfl)) | (show DrD _ _ _ [] _ _ _ _; refine D_nil ?_; try dsimp only) | (show DrD _ _ _ (_ :: _) _ _ _ _; first | refine D_con ?_ ?_ | refine D_store tok ?_ ?_) | (show Ev _ _ _ _; first | refine Ev_seq ?_ | refine W_reg ?_ | refine Ev_ret ?_) | (show EvD _ _ [] _ _ _; refine W_nil ?_) | (show EvD _ _ (_ :: _) _ _ _; first | refine W_run tok ?_ ?_ (by simp (maxSteps := 1000000) (disch := omega) only [go_sem, wrap_i64_id, z200_eq, z200_eq2, hg]; with_reducible exact rfl) | refine W_callee ?_) | (show EvC _ _ _ _ _ _ _ _ _; refine W_con ?_ ?_) | (show RetQ _ _ (RP _ _) _ _; refine R_ret ?_ ?_) | refine Q_thenN ?_ | fail)
 all_goals (try exact sd)
 all_goals (try refine F_done ?_)
 all_goals rfl
instance i_bursarlaw06_awake  : Con Try.prog 17 [] (True) (.bool true) := ⟨c_bursarlaw06_awake ⟩
end Go.Val.Ytlfnmgmbmgacgaa
