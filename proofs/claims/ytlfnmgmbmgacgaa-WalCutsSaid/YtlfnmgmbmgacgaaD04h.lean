/- Chapter 04: the document's crash; what the laws use, walked. -/
import Derived.Test.YtlfnmgmbmgacgaaD04g
namespace Go.Val.Ytlfnmgmbmgacgaa
open Go Go.Val Go.Proofs Go.Proofs.Ytlfnmgmbmgacgaa
attribute [local irreducible] Ev EvD EvC thenQ blockQ RoundG RetQ
set_option maxRecDepth 100000
set_option maxHeartbeats 4000000
set_option linter.unusedSimpArgs false
set_option linter.unusedVariables false
theorem cx_bursarref04_Copy (S : List (List UInt8)) (W : List (Int × List UInt8)) (L : Int) (O : Bool) (hC : szP S W ∧ ((∀ b ∈ S, b.length ≤ 140737488355328) ∧ ∀ p ∈ W, p.2.length ≤ 140737488355328)) : ∀ σ : Store, Does Try.prog n_bursarref04_Copy [diskD S W L O] σ (one ((.agg [.row 0 S.length, .sl (pends W), .int .i64 L, .bool O] : DV).ren (σ.rows.length + ·) (σ.boxes.length + ·) (σ.maps.length + ·)) (σ.plus [⟨secs S, 28, 1⟩] [] [])) := by
 refine FxT.go tok (rv := [.cell 2 25]) [diskD S W L O, .undef, .undef, .undef, .undef, .undef, .undef, .undef, .undef, .undef, .undef, .undef, .undef, .undef, .undef, .undef, .undef, .undef, .undef, .undef, .undef, .undef, .undef, .undef, .undef, .undef, .undef, .undef, .undef, .undef, .undef, .undef, .undef, .undef, .undef, .undef, .undef, .undef, .undef, .undef, .undef, .undef, .undef, .undef, .undef, .undef, .undef, .undef, .undef, .undef, .undef, .undef, .undef, .undef, .undef, .undef, .undef, .undef] Try.func9 (fun σ => ?_)
 repeat' (first | (show Ev _ _ _ _; first | refine Ev_seq ?_ | refine W_reg ?_ | refine Ev_block ?_) | (show EvD _ _ [] _ _ _; refine W_nil ?_) | (show EvD _ _ (_ :: _) _ _ _; refine W_run tok ?_ ?_) | refine Q_thenN ?_ | fail)
 all_goals (try exact sd)
 all_goals (try refine F_done ?_)
 refine Ev_seedB (σ.boxes.length + 2) 0 28 1 (by (try simp only [app_get, app_get0, List.getElem?_cons_succ, List.getElem?_cons_zero]) <;> exact rfl) (by (try simp only [List.getElem?_cons_succ, List.getElem?_cons_zero]) <;> exact rfl) (by decide) (by (try simp only [app_len, List.length_cons, List.length_nil, Nat.zero_add, Nat.reduceAdd, app_set, app_set0, List.set_cons_succ, List.set_cons_zero]) <;> exact rfl) (by (try simp only [List.append_assoc, List.cons_append, List.nil_append]) <;> exact rfl) ?_
 refine Ev_seedB (σ.boxes.length + 2) 1 66 2 (by (try simp only [app_get, app_get0, List.getElem?_cons_succ, List.getElem?_cons_zero]) <;> exact rfl) (by (try simp only [List.getElem?_cons_succ, List.getElem?_cons_zero]) <;> exact rfl) (by decide) (by (try simp only [app_len, List.length_cons, List.length_nil, Nat.zero_add, Nat.reduceAdd, app_set, app_set0, List.set_cons_succ, List.set_cons_zero]) <;> exact rfl) (by (try simp only [List.append_assoc, List.cons_append, List.nil_append]) <;> exact rfl) ?_
 refine Ev_lp (S.length) (fun i => [(4, i64 i)]) (fun i => ⟨σ.rows ++ [some ⟨secs (S.take i), 28, 1⟩, some ⟨[], 66, 2⟩], σ.boxes ++ [some ⟨25, [.sl (secs S), .sl (pends W), .int .i64 L, .bool O]⟩, some ⟨25, [.slt [], .slt [], .int .i64 0, .bool false]⟩, some ⟨25, [.row σ.rows.length i, .row (σ.rows.length + 1) 0, .int .i64 L, .bool O]⟩], σ.maps⟩) [11, 12, 13, 14, 15, 16, 17, 18, 19, 20, 21, 22, 23, 24, 25, 26, 27, 28, 29] ?_ (by simp [secs]) (fun i hi => ?_)
 ·exact le1
 by_cases hi' : i < S.length
 ·have hl : (S.take i).length = i := by rw [List.length_take]; omega
  have hg := secs_get hi'
  have hs := take_snocS hi'
  have hb := hC.2.1 _ (getD_memS hi')
  repeat' (first | (show Ev _ (.region _ _ true) _ _; refine D_startA [9, 51, 54, 65, 68, 100026, 99998] mix ?_) | (show DrD _ _ _ [] _ _ _ _; refine D_nil ?_; try dsimp only) | (show DrD _ EA _ (_ :: _) _ _ _ _; first | refine D_runLA tok ?_ ?_ (h := by intro R; simp (maxSteps := 1000000) (disch := omega) only [go_sem, wrap_i64_id, hg, hl, hs]; with_reducible exact rfl)) | (show DrD _ _ _ (_ :: _) _ _ _ _; first | refine D_store tok ?_ ?_ | refine D_eff tok ?_ ?_ | refine D_hold tok ?_ ?_) | (show Ev _ _ _ _; first | refine Ev_seq ?_ | refine W_reg ?_ | refine Ev_block ?_ | refine W_ifY ?_ | refine Ev_skip ?_) | (show EvD _ _ [] _ _ _; refine W_nil ?_) | (show EvD _ _ (_ :: _) _ _ _; first | refine W_run tok ?_ ?_ (by simp (maxSteps := 1000000) (disch := omega) only [go_sem, wrap_i64_id, hg, hl, hs]; with_reducible exact rfl)) | refine Q_thenN ?_ | refine Q_blkN ?_ | fail)
  all_goals (try exact sd)
  all_goals (try refine F_done ?_)
  refine Q_rndN ?_ (by omega) ?_
  rotate_left
  ·rfl
  repeat (first | exact LeL.nil | refine LeL.cons2 ?_ (Le.undef _) | refine LeL.cons2 ?_ (Le.refl _) | refine LeL.cons2 ?_ (Le.sl _) | refine LeL.cons2 ?_ (Le.eq (by first | rfl | exact congrArg _ (by omega))) | refine LeL.cons2 ?_ (Le.eq ?_))
 ·obtain rfl : i = S.length := by omega
  rw [List.take_length]
  repeat' (first | (show Ev _ _ _ _; first | refine Ev_seq ?_ | refine W_reg ?_ | refine Ev_block ?_ | refine W_ifN ?_ | refine Ev_exit ?_) | (show EvD _ _ [] _ _ _; refine W_nil ?_) | (show EvD _ _ (_ :: _) _ _ _; refine W_run tok ?_ ?_) | refine Q_thenN ?_ | refine Q_thenE ?_ | refine Q_blkE ?_ | refine Q_rndE ?_ | fail)
  all_goals (try exact sd)
  all_goals (try refine F_done ?_)
  refine Ev_lp (W.length) (fun j => [(5, i64 j)]) (fun j => ⟨σ.rows ++ [some ⟨secs S, 28, 1⟩, some ⟨pends (W.take j), 66, 2⟩], σ.boxes ++ [some ⟨25, [.sl (secs S), .sl (pends W), .int .i64 L, .bool O]⟩, some ⟨25, [.slt [], .slt [], .int .i64 0, .bool false]⟩, some ⟨25, [.row σ.rows.length S.length, .row (σ.rows.length + 1) j, .int .i64 L, .bool O]⟩], σ.maps⟩) [30, 31, 32, 33, 34, 35, 36, 37, 38, 39, 40, 41, 42, 43, 44, 45, 46, 47, 48, 49, 50, 51, 52, 53, 54, 55, 56] ?_ (by simp [pends]) (fun j hi => ?_)
  ·exact le1
  by_cases hj' : j < W.length
  ·have hl : (W.take j).length = j := by rw [List.length_take]; omega
   have hg := pends_get hj'
   have hs := take_snocW hj'
   have hb := hC.2.2 _ (getD_memW hj')
   repeat' (first | (show Ev _ (.region _ _ true) _ _; refine D_startA [9, 51, 54, 65, 68, 100052, 99998] mix ?_) | (show DrD _ _ _ [] _ _ _ _; refine D_nil ?_; try dsimp only) | (show DrD _ EA _ (_ :: _) _ _ _ _; first | refine D_runLA tok ?_ ?_ (h := by intro R; simp (maxSteps := 1000000) (disch := omega) only [go_sem, wrap_i64_id, hg, hl, hs]; with_reducible exact rfl)) | (show DrD _ _ _ (_ :: _) _ _ _ _; first | refine D_store tok ?_ ?_ | refine D_eff tok ?_ ?_ | refine D_hold tok ?_ ?_) | (show Ev _ _ _ _; first | refine Ev_seq ?_ | refine W_reg ?_ | refine Ev_block ?_ | refine W_ifY ?_ | refine Ev_skip ?_) | (show EvD _ _ [] _ _ _; refine W_nil ?_) | (show EvD _ _ (_ :: _) _ _ _; first | refine W_run tok ?_ ?_ (by simp (maxSteps := 1000000) (disch := omega) only [go_sem, wrap_i64_id, hg, hl, hs]; with_reducible exact rfl)) | refine Q_thenN ?_ | refine Q_blkN ?_ | fail)
   all_goals (try exact sd)
   all_goals (try refine F_done ?_)
   refine Q_rndN ?_ (by omega) ?_
   rotate_left
   ·rfl
   repeat (first | exact LeL.nil | refine LeL.cons2 ?_ (Le.undef _) | refine LeL.cons2 ?_ (Le.refl _) | refine LeL.cons2 ?_ (Le.sl _) | refine LeL.cons2 ?_ (Le.eq (by first | rfl | exact congrArg _ (by omega))) | refine LeL.cons2 ?_ (Le.eq ?_))
  ·obtain rfl : j = W.length := by omega
   rw [List.take_length]
   repeat' (first | (show Ev _ _ _ _; first | refine Ev_seq ?_ | refine W_reg ?_) | (show EvD _ _ [] _ _ _; refine W_nil ?_) | (show EvD _ _ (_ :: _) _ _ _; refine W_run tok ?_ ?_) | fail)
   all_goals (try exact sd)
   all_goals (try refine F_done ?_)
   refine Q_thenN ?_
   repeat' (first | (show Ev _ _ _ _; first | refine W_ifN ?_ | refine Ev_exit ?_) | refine Q_thenE ?_ | refine Q_blkE ?_ | refine Q_rndE ?_ | fail)
   all_goals (try exact sd)
   all_goals (try refine F_done ?_)
   refine Q_thenN ?_
   refine W_frzC (σ.rows.length + 1) ?_ (hs := by simp (disch := omega) only [pends_len, secs_len, frzAt, frzAtL, if_pos, if_neg, and_self, if_true]; exact rfl) (hB := by simp (disch := omega) only [frzBox, List.map_cons, List.map_nil, pends_len, secs_len, frzAt, frzAtL, if_pos, if_neg, and_self, if_true]; exact rfl)
   repeat' (first | (show Ev _ _ _ _; first | refine Ev_seq ?_ | refine W_reg ?_ | refine Ev_ret ?_) | (show EvD _ _ [] _ _ _; refine W_nil ?_) | (show EvD _ _ (_ :: _) _ _ _; refine W_run tok ?_ ?_) | (show RetQ _ _ (RX _ _ _ [_] [] []) _ _; refine R_xr ?_ (by intro p q s hp; simp only [DV.ren, rens, hp]; exact rfl) ?_) | refine Q_thenN ?_ | fail)
   all_goals (try exact sd)
   all_goals (try refine F_done ?_)
   all_goals rfl
instance ix_bursarref04_Copy (S : List (List UInt8)) (W : List (Int × List UInt8)) (L : Int) (O : Bool) : ConT Try.prog 9 [diskD S W L O] (szP S W ∧ ((∀ b ∈ S, b.length ≤ 140737488355328) ∧ ∀ p ∈ W, p.2.length ≤ 140737488355328)) (.agg [.row 0 S.length, .sl (pends W), .int .i64 L, .bool O]) ([⟨secs S, 28, 1⟩]) ([]) ([]) := ⟨cx_bursarref04_Copy S  W  L  O ⟩
def fewS (S : List (List UInt8)) : List (List UInt8) := if 60 < S.length ∧ S.length ≤ 4096 then S.take 60 else S.take 4097
def fewW (W : List (Int × List UInt8)) : List (Int × List UInt8) := W.take 40
theorem secs_take (S : List (List UInt8)) (n : Nat) : (secs S).take n = secs (S.take n) := by simp [secs, List.map_take]
theorem pends_take (S : List (Int × List UInt8)) (n : Nat) : (pends S).take n = pends (S.take n) := by simp [pends, List.map_take]
theorem c_bursarlaw04_Few (S : List (List UInt8)) (W : List (Int × List UInt8)) (L : Int) (O : Bool) (hC : True) : Pure Try.prog n_bursarlaw04_Few [diskD S W L O] (diskD (fewS S) (fewW W) L O) := by
 refine Pure.go tok (rs := [.cell 2 25]) [diskD S W L O, .undef, .undef, .undef, .undef, .undef, .undef, .undef, .undef, .undef, .undef, .undef, .undef, .undef, .undef, .undef, .undef, .undef, .undef, .undef, .undef, .undef, .undef, .undef, .undef, .undef, .undef, .undef, .undef, .undef, .undef, .undef, .undef, .undef] Try.func7 (fun σ => ?_)
 by_cases h1 : 60 < S.length ∧ S.length ≤ 4096
 ·have e1 : fewS S = S.take 60 := by unfold fewS; rw [if_pos h1]
  have hl60 : (S.take 60).length = 60 := by rw [List.length_take]; omega
  by_cases h2 : 40 < W.length
  ·repeat' (first | (show Ev _ _ _ _; first | refine Ev_seq ?_ | refine W_reg ?_ | refine W_ifY ?_ | refine W_ifN ?_ | refine Ev_skip ?_ | refine Ev_ret ?_) | (show EvD _ _ [] _ _ _; refine W_nil ?_) | (show EvD _ _ (⟨_, _, _, _, _, some _⟩ :: _) _ _ _; refine W_grdY ?_) | (show EvD _ _ (_ :: _) _ _ _; first | refine W_run tok ?_ ?_ (by simp (maxSteps := 1000000) (disch := omega) only [go_sem, List.drop_zero, secs_take, pends_take]; with_reducible exact rfl)) | (show RetQ _ _ (RP _ _) _ _; refine R_ret ?_ ?_) | refine Q_thenN ?_ | fail)
   all_goals (try exact sd)
   all_goals (try refine F_done ?_)
   all_goals (simp [e1, fewW])
  ·have e2 : fewW W = W := List.take_of_length_le (by omega)
   repeat' (first | (show Ev _ _ _ _; first | refine Ev_seq ?_ | refine W_reg ?_ | refine W_ifY ?_ | refine W_ifN ?_ | refine Ev_skip ?_ | refine Ev_ret ?_) | (show EvD _ _ [] _ _ _; refine W_nil ?_) | (show EvD _ _ (⟨_, _, _, _, _, some _⟩ :: _) _ _ _; refine W_grdY ?_) | (show EvD _ _ (_ :: _) _ _ _; first | refine W_run tok ?_ ?_ (by simp (maxSteps := 1000000) (disch := omega) only [go_sem, List.drop_zero, secs_take]; with_reducible exact rfl)) | (show RetQ _ _ (RP _ _) _ _; refine R_ret ?_ ?_) | refine Q_thenN ?_ | fail)
   all_goals (try exact sd)
   all_goals (try refine F_done ?_)
   all_goals (simp [e1, e2])
 ·by_cases h3 : 4097 < S.length
  ·have e1 : fewS S = S.take 4097 := by unfold fewS; rw [if_neg h1]
   by_cases h2 : 40 < W.length
   ·repeat' (first | (show Ev _ _ _ _; first | refine Ev_seq ?_ | refine W_reg ?_ | refine W_ifY ?_ | refine W_ifN ?_ | refine Ev_skip ?_ | refine Ev_ret ?_) | (show EvD _ _ [] _ _ _; refine W_nil ?_) | (show EvD _ _ (⟨_, _, _, _, _, some _⟩ :: _) _ _ _; refine W_grdY ?_) | (show EvD _ _ (_ :: _) _ _ _; first | refine W_run tok ?_ ?_ (by simp (maxSteps := 1000000) (disch := omega) only [go_sem, List.drop_zero, secs_take, pends_take]; with_reducible exact rfl)) | (show RetQ _ _ (RP _ _) _ _; refine R_ret ?_ ?_) | refine Q_thenN ?_ | fail)
    all_goals (try exact sd)
    all_goals (try refine F_done ?_)
    all_goals (simp [e1, fewW])
   ·have e2 : fewW W = W := List.take_of_length_le (by omega)
    repeat' (first | (show Ev _ _ _ _; first | refine Ev_seq ?_ | refine W_reg ?_ | refine W_ifY ?_ | refine W_ifN ?_ | refine Ev_skip ?_ | refine Ev_ret ?_) | (show EvD _ _ [] _ _ _; refine W_nil ?_) | (show EvD _ _ (⟨_, _, _, _, _, some _⟩ :: _) _ _ _; refine W_grdY ?_) | (show EvD _ _ (_ :: _) _ _ _; first | refine W_run tok ?_ ?_ (by simp (maxSteps := 1000000) (disch := omega) only [go_sem, List.drop_zero, secs_take]; with_reducible exact rfl)) | (show RetQ _ _ (RP _ _) _ _; refine R_ret ?_ ?_) | refine Q_thenN ?_ | fail)
    all_goals (try exact sd)
    all_goals (try refine F_done ?_)
    all_goals (simp [e1, e2])
  ·have e1 : fewS S = S := by unfold fewS; rw [if_neg h1]; exact List.take_of_length_le (by omega)
   by_cases h2 : 40 < W.length
   ·repeat' (first | (show Ev _ _ _ _; first | refine Ev_seq ?_ | refine W_reg ?_ | refine W_ifF ?_ | refine W_ifY ?_ | refine W_ifN ?_ | refine Ev_skip ?_ | refine Ev_ret ?_) | (show EvD _ _ [] _ _ _; refine W_nil ?_) | (show EvD _ _ (⟨_, _, _, _, _, some _⟩ :: _) _ _ _; refine W_grdP (fun h => ?_) (fun h => ?_)) | (show EvD _ _ (_ :: _) _ _ _; first | refine W_run tok ?_ ?_ (by simp (maxSteps := 1000000) (disch := omega) only [go_sem, List.drop_zero, pends_take]; with_reducible exact rfl)) | (show RetQ _ _ (RP _ _) _ _; refine R_ret ?_ ?_) | refine Q_thenN ?_ | fail)
    all_goals (try exact sd)
    all_goals (try refine F_done ?_)
    all_goals (simp [e1, fewW])
   ·have e2 : fewW W = W := List.take_of_length_le (by omega)
    repeat' (first | (show Ev _ _ _ _; first | refine Ev_seq ?_ | refine W_reg ?_ | refine W_ifF ?_ | refine W_ifN ?_ | refine Ev_skip ?_ | refine Ev_ret ?_) | (show EvD _ _ [] _ _ _; refine W_nil ?_) | (show EvD _ _ (⟨_, _, _, _, _, some _⟩ :: _) _ _ _; refine W_grdP (fun h => ?_) (fun h => ?_)) | (show EvD _ _ (_ :: _) _ _ _; refine W_run tok ?_ ?_) | (show RetQ _ _ (RP _ _) _ _; refine R_ret ?_ ?_) | refine Q_thenN ?_ | fail)
    all_goals (try exact sd)
    all_goals (try refine F_done ?_)
    all_goals (simp [e1, e2])
instance i_bursarlaw04_Few (S : List (List UInt8)) (W : List (Int × List UInt8)) (L : Int) (O : Bool) : Con Try.prog 7 [diskD S W L O] (True) (diskD (fewS S) (fewW W) L O) := ⟨c_bursarlaw04_Few S  W  L  O ⟩
end Go.Val.Ytlfnmgmbmgacgaa
