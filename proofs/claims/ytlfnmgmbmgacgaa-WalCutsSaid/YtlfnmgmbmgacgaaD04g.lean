/- Chapter 04: the document's side, walked. -/
import Derived.Test.YtlfnmgmbmgacgaaD04f
namespace Go.Val.Ytlfnmgmbmgacgaa
open Go Go.Val Go.Proofs Go.Proofs.Ytlfnmgmbmgacgaa
attribute [local irreducible] Ev EvD EvC thenQ blockQ RoundG RetQ
set_option maxRecDepth 100000
set_option maxHeartbeats 4000000
set_option linter.unusedSimpArgs false
set_option linter.unusedVariables false
theorem findIdx_le {α : Type} (p : α → Bool) (l : List α) : l.findIdx p ≤ l.length := List.findIdx_le_length
theorem fiS_lt {p : List UInt8 → Bool} {S : List (List UInt8)} {i : Nat} (h : i < S.findIdx p) : p (S.getD i []) = false := by
 have hl : i < S.length := Nat.lt_of_lt_of_le h List.findIdx_le_length
 have := List.not_of_lt_findIdx h
 rw [List.getD_eq_getElem?_getD, List.getElem?_eq_getElem hl]
 simpa using this
theorem fiS_eq {p : List UInt8 → Bool} {S : List (List UInt8)} (h : S.findIdx p < S.length) : p (S.getD (S.findIdx p) []) = true := by
 rw [List.getD_eq_getElem?_getD, List.getElem?_eq_getElem h]
 exact List.findIdx_getElem (w := h)
theorem fiW_lt {p : Int × List UInt8 → Bool} {W : List (Int × List UInt8)} {i : Nat} (h : i < W.findIdx p) : p (W.getD i (0, [])) = false := by
 have hl : i < W.length := Nat.lt_of_lt_of_le h List.findIdx_le_length
 have := List.not_of_lt_findIdx h
 rw [List.getD_eq_getElem?_getD, List.getElem?_eq_getElem hl]
 simpa using this
theorem fiW_eq {p : Int × List UInt8 → Bool} {W : List (Int × List UInt8)} (h : W.findIdx p < W.length) : p (W.getD (W.findIdx p) (0, [])) = true := by
 rw [List.getD_eq_getElem?_getD, List.getElem?_eq_getElem h]
 exact List.findIdx_getElem (w := h)
theorem fi_all {α : Type} {p : α → Bool} {l : List α} (h : ¬ l.findIdx p < l.length) : ∀ x ∈ l, p x = false := by
 have e : l.findIdx p = l.length := Nat.le_antisymm List.findIdx_le_length (Nat.le_of_not_lt h)
 rw [List.findIdx_eq_length] at e
 exact e
theorem getD_memW {W : List (Int × List UInt8)} {i : Nat} (h : i < W.length) : W.getD i (0, []) ∈ W := by
 rw [List.getD_eq_getElem?_getD, List.getElem?_eq_getElem h]; exact List.getElem_mem h
theorem getD_memS {W : List (List UInt8)} {i : Nat} (h : i < W.length) : W.getD i [] ∈ W := by
 rw [List.getD_eq_getElem?_getD, List.getElem?_eq_getElem h]; exact List.getElem_mem h
def badS (b : List UInt8) : Bool := !decide (b.length = 64)
def badW (n : Nat) (p : Int × List UInt8) : Bool := !decide (0 ≤ p.1 ∧ p.1 < n ∧ p.2.length = 64)
theorem c_bursarref04_May (S : List (List UInt8)) (W : List (Int × List UInt8)) (L : Int) (O : Bool) (hC : szP S W) : Pure Try.prog n_bursarref04_May [diskD S W L O] (.bool (decide (mayP S W L))) := by
 refine Pure.go tok (rs := [.tmp 2]) [diskD S W L O, .undef, .undef, .undef, .undef, .undef, .undef, .undef, .undef, .undef, .undef, .undef, .undef, .undef, .undef, .undef, .undef, .undef, .undef, .undef, .undef, .undef, .undef, .undef, .undef, .undef, .undef, .undef, .undef, .undef, .undef, .undef, .undef, .undef, .undef, .undef, .undef, .undef, .undef, .undef, .undef, .undef, .undef, .undef, .undef, .undef, .undef, .undef, .undef, .undef, .undef, .undef, .undef, .undef, .undef, .undef, .undef, .undef, .undef, .undef, .undef, .undef, .undef, .undef, .undef, .undef, .undef, .undef, .undef, .undef] Try.func36 (fun σ => ?_)
 have l1 := findIdx_le badS S
 have l2 := findIdx_le (badW S.length) W
 repeat' (first | (show Ev _ _ _ _; first | refine Ev_seq ?_ | refine W_reg ?_ | refine Ev_block ?_) | (show EvD _ _ [] _ _ _; refine W_nil ?_) | (show EvD _ _ (_ :: _) _ _ _; refine W_run tok ?_ ?_) | refine Q_thenN ?_ | fail)
 all_goals (try exact sd)
 all_goals (try refine F_done ?_)
 refine Ev_lp (S.findIdx badS) (fun i => [(3, i64 i)]) (fun i => ⟨σ.rows, σ.boxes ++ [some ⟨25, [.sl (secs S), .sl (pends W), .int .i64 L, .bool O]⟩], σ.maps⟩) [2, 5, 6, 7, 8, 9, 10, 11, 12, 13, 14, 15, 16, 17, 18] ?_ (by first | rfl | (simp only [List.take_zero, List.append_nil]; done)) (fun i hi => ?_)
 ·exact le1
 by_cases hi' : i < S.findIdx badS
 ·have hil : i < S.length := by omega
  have hb : (S.getD i []).length = 64 := by have := fiS_lt hi'; simpa [badS] using this
  have hg := secs_get hil
  repeat' (first | (show Ev _ _ _ _; first | refine Ev_seq ?_ | refine W_reg ?_ | refine Ev_block ?_ | refine W_ifF ?_ | refine W_ifY ?_ | refine Ev_skip ?_) | (show EvD _ _ [] _ _ _; refine W_nil ?_) | (show EvD _ _ (_ :: _) _ _ _; first | refine W_run tok ?_ ?_ (by simp (maxSteps := 1000000) (disch := omega) only [go_sem, wrap_i64_id, hg, hb]; with_reducible exact rfl)) | refine Q_thenN ?_ | refine Q_blkN ?_ | fail)
  all_goals (try exact sd)
  all_goals (try refine F_done ?_)
  refine Q_rndN ?_ (by omega) ?_
  rotate_left
  ·rfl
  repeat (first | exact LeL.nil | refine LeL.cons2 ?_ (Le.undef _) | refine LeL.cons2 ?_ (Le.refl _) | refine LeL.cons2 ?_ (Le.sl _) | refine LeL.cons2 ?_ (Le.eq (by first | rfl | exact congrArg _ (by omega))) | refine LeL.cons2 ?_ (Le.eq ?_))
 ·obtain rfl : i = S.findIdx badS := by omega
  by_cases hS : S.findIdx badS < S.length
  ·have hb : ¬ (S.getD (S.findIdx badS) []).length = 64 := by have := fiS_eq hS; simpa [badS] using this
   have hm : ¬ mayP S W L := fun h => hb (h.2.2.1 _ (getD_memS hS))
   have hg := secs_get hS
   repeat' (first | (show Ev _ _ _ _; first | refine Ev_seq ?_ | refine W_reg ?_ | refine Ev_block ?_ | refine W_ifY ?_ | refine Ev_skip ?_ | refine Ev_ret ?_) | (show EvD _ _ [] _ _ _; refine W_nil ?_) | (show EvD _ _ (_ :: _) _ _ _; first | refine W_run tok ?_ ?_ (by simp (maxSteps := 1000000) (disch := omega) only [go_sem, wrap_i64_id, hg]; with_reducible exact rfl)) | (show RetQ _ _ (RP _ _) _ _; refine R_ret ?_ ?_) | refine Q_thenN ?_ | refine Q_thenR ?_ | refine Q_blkR ?_ | refine Q_rndR ?_ | fail)
   all_goals (try exact sd)
   all_goals (try refine F_done ?_)
   all_goals (simp [hm])
  ·have hSa : ∀ b ∈ S, b.length = 64 := fun b hb => by have := fi_all hS b hb; simpa [badS] using this
   repeat' (first | (show Ev _ _ _ _; first | refine Ev_seq ?_ | refine W_reg ?_ | refine Ev_block ?_ | refine W_ifN ?_ | refine Ev_exit ?_) | (show EvD _ _ [] _ _ _; refine W_nil ?_) | (show EvD _ _ (_ :: _) _ _ _; first | refine W_run tok ?_ ?_ (by simp (maxSteps := 1000000) (disch := omega) only [go_sem, wrap_i64_id]; with_reducible exact rfl)) | refine Q_thenN ?_ | refine Q_thenE ?_ | refine Q_blkE ?_ | refine Q_rndE ?_ | fail)
   all_goals (try exact sd)
   all_goals (try refine F_done ?_)
   refine Ev_lp (W.findIdx (badW S.length)) (fun j => [(4, i64 j)]) (fun j => ⟨σ.rows, σ.boxes ++ [some ⟨25, [.sl (secs S), .sl (pends W), .int .i64 L, .bool O]⟩], σ.maps⟩) [2, 19, 20, 21, 22, 23, 24, 25, 26, 27, 28, 29, 30, 31, 32, 33, 34, 35, 36, 37, 38, 39, 40, 41, 42, 43, 44, 45, 46, 47, 48, 49, 50, 51, 52, 53, 54] ?_ (by first | rfl | (simp only [List.take_zero, List.append_nil]; done)) (fun j hi => ?_)
   ·exact le1
   by_cases hj' : j < W.findIdx (badW S.length)
   ·have hjl : j < W.length := by omega
    have hb : 0 ≤ (W.getD j (0, [])).1 ∧ (W.getD j (0, [])).1 < S.length ∧ (W.getD j (0, [])).2.length = 64 := by have := fiW_lt hj'; simpa [badW] using this
    have hg := pends_get hjl
    have hb3 := hb.2.2
    repeat' (first | (show Ev _ (.region _ _ true) _ _; refine D_start [51, 54, 65, 68] mix ?_) | (show DrD _ _ _ [] _ _ _ _; refine D_nil ?_; try dsimp only) | (show DrD _ _ _ (⟨_, _, _, _, _, some _⟩ :: _) _ _ _ _; refine D_grdN ?_) | (show DrD _ (EB _ _) _ (_ :: _) _ _ _ _; first | refine D_runL tok ?_ ?_ (h := by intro R; simp (maxSteps := 1000000) (disch := omega) only [go_sem, wrap_i64_id, hg, hb3]; with_reducible exact rfl)) | (show Ev _ _ _ _; first | refine Ev_seq ?_ | refine W_reg ?_ | refine Ev_block ?_ | refine W_ifF ?_ | refine W_ifY ?_ | refine Ev_skip ?_) | (show EvD _ _ [] _ _ _; refine W_nil ?_) | (show EvD _ _ (_ :: _) _ _ _; first | refine W_run tok ?_ ?_ (by simp (maxSteps := 1000000) (disch := omega) only [go_sem, wrap_i64_id, hg, hb3]; with_reducible exact rfl)) | refine Q_thenN ?_ | refine Q_blkN ?_ | fail)
    all_goals (try exact sd)
    all_goals (try refine F_done ?_)
    refine Q_rndN ?_ (by omega) ?_
    rotate_left
    ·rfl
    repeat (first | exact LeL.nil | refine LeL.cons2 ?_ (Le.undef _) | refine LeL.cons2 ?_ (Le.refl _) | refine LeL.cons2 ?_ (Le.sl _) | refine LeL.cons2 ?_ (Le.eq (by first | rfl | exact congrArg _ (by omega))) | refine LeL.cons2 ?_ (Le.eq ?_))
   ·obtain rfl : j = W.findIdx (badW S.length) := by omega
    by_cases hW : W.findIdx (badW S.length) < W.length
    ·have hb : ¬ (0 ≤ (W.getD (W.findIdx (badW S.length)) (0, [])).1 ∧ (W.getD (W.findIdx (badW S.length)) (0, [])).1 < S.length ∧ (W.getD (W.findIdx (badW S.length)) (0, [])).2.length = 64) := by have := fiW_eq hW; simpa only [badW, Bool.not_eq_true', decide_eq_false_iff_not] using this
     have hm : ¬ mayP S W L := fun h => hb (h.2.2.2 _ (getD_memW hW))
     have hg := pends_get hW
     repeat' (first | (show Ev _ (.region _ _ true) _ _; refine D_start [51, 54, 65, 68] mix ?_) | (show DrD _ _ _ [] _ _ _ _; refine D_nil ?_; try dsimp only) | (show DrD _ _ _ (⟨_, _, _, _, _, some _⟩ :: _) _ _ _ _; refine D_grdP (fun h => ?_) (fun h => ?_)) | (show DrD _ (EB _ _) _ (_ :: _) _ _ _ _; first | refine D_runL tok ?_ ?_ (h := by intro R; simp (maxSteps := 1000000) (disch := omega) only [go_sem, wrap_i64_id, hg]; with_reducible exact rfl)) | (show Ev _ _ _ _; first | refine Ev_seq ?_ | refine W_reg ?_ | refine Ev_block ?_ | refine W_ifT ?_ | refine W_ifY ?_ | refine Ev_skip ?_ | refine Ev_ret ?_) | (show EvD _ _ [] _ _ _; refine W_nil ?_) | (show EvD _ _ (_ :: _) _ _ _; first | refine W_run tok ?_ ?_ (by simp (maxSteps := 1000000) (disch := omega) only [go_sem, wrap_i64_id, hg]; with_reducible exact rfl)) | (show RetQ _ _ (RP _ _) _ _; refine R_ret ?_ ?_) | refine Q_thenN ?_ | refine Q_thenR ?_ | refine Q_blkR ?_ | refine Q_rndR ?_ | fail)
     all_goals (try exact sd)
     all_goals (try refine F_done ?_)
     all_goals first | (simp [hm]; done) | (exfalso; omega)
    ·have hWa : ∀ p ∈ W, 0 ≤ p.1 ∧ p.1 < S.length ∧ p.2.length = 64 := fun b hb => by have := fi_all hW b hb; simpa [badW] using this
     have hm : mayP S W L ↔ (1 ≤ S.length ∧ S.length ≤ 4096) ∧ -1 ≤ L := by unfold mayP; exact ⟨fun h => ⟨h.1, h.2.1⟩, fun h => ⟨h.1, h.2, hSa, hWa⟩⟩
     repeat' (first | (show Ev _ _ _ _; first | refine Ev_seq ?_ | refine W_reg ?_ | refine W_ifN ?_ | refine Ev_exit ?_ | refine Ev_ret ?_) | (show EvD _ _ [] _ _ _; refine W_nil ?_) | (show EvD _ _ (⟨_, _, _, _, _, some _⟩ :: _) _ _ _; refine W_grdP (fun h => ?_) (fun h => ?_)) | (show EvD _ _ (_ :: _) _ _ _; first | refine W_run tok ?_ ?_ (by simp (maxSteps := 1000000) (disch := omega) only [go_sem, wrap_i64_id]; with_reducible exact rfl)) | (show RetQ _ _ (RP _ _) _ _; refine R_ret ?_ ?_) | refine Q_thenN ?_ | refine Q_thenE ?_ | refine Q_blkE ?_ | refine Q_rndE ?_ | fail)
     all_goals (try exact sd)
     all_goals (try refine F_done ?_)
     all_goals (rw [show decide (mayP S W L) = decide ((1 ≤ S.length ∧ S.length ≤ 4096) ∧ -1 ≤ L) from decide_eq_decide.2 hm])
     all_goals first | exact congrArg DV.bool (decide_eq_decide.2 (by omega)) | exact congrArg DV.bool (decide_eq_false (by omega)).symm | exact congrArg DV.bool (decide_eq_true (by omega)).symm
instance i_bursarref04_May (S : List (List UInt8)) (W : List (Int × List UInt8)) (L : Int) (O : Bool) : Con Try.prog 36 [diskD S W L O] (szP S W) (.bool (decide (mayP S W L))) := ⟨c_bursarref04_May S  W  L  O ⟩
theorem take_snocS {S : List (List UInt8)} {i : Nat} (h : i < S.length) : secs (S.take i) ++ [.sl (bytes (S.getD i []))] = secs (S.take (i + 1)) := by
 rw [secs_snoc, List.take_add_one, List.getElem?_eq_getElem h, List.getD_eq_getElem?_getD, List.getElem?_eq_getElem h]; rfl
theorem take_snocW {W : List (Int × List UInt8)} {i : Nat} (h : i < W.length) : pends (W.take i) ++ [.agg [.int .i64 (W.getD i (0, [])).1, .sl (bytes (W.getD i (0, [])).2)]] = pends (W.take (i + 1)) := by
 rw [pends_snoc, List.take_add_one, List.getElem?_eq_getElem h, List.getD_eq_getElem?_getD, List.getElem?_eq_getElem h]; rfl
theorem c_bursarref04_Copy (S : List (List UInt8)) (W : List (Int × List UInt8)) (L : Int) (O : Bool) (hC : szP S W ∧ ((∀ b ∈ S, b.length ≤ 140737488355328) ∧ ∀ p ∈ W, p.2.length ≤ 140737488355328)) : Pure Try.prog n_bursarref04_Copy [diskD S W L O] (diskD S W L O) := by
 refine Pure.go tok (rs := [.cell 2 25]) [diskD S W L O, .undef, .undef, .undef, .undef, .undef, .undef, .undef, .undef, .undef, .undef, .undef, .undef, .undef, .undef, .undef, .undef, .undef, .undef, .undef, .undef, .undef, .undef, .undef, .undef, .undef, .undef, .undef, .undef, .undef, .undef, .undef, .undef, .undef, .undef, .undef, .undef, .undef, .undef, .undef, .undef, .undef, .undef, .undef, .undef, .undef, .undef, .undef, .undef, .undef, .undef, .undef, .undef, .undef, .undef, .undef, .undef, .undef] Try.func9 (fun σ => ?_)
 repeat' (first | (show Ev _ _ _ _; first | refine Ev_seq ?_ | refine W_reg ?_ | refine Ev_block ?_) | (show EvD _ _ [] _ _ _; refine W_nil ?_) | (show EvD _ _ (_ :: _) _ _ _; refine W_run tok ?_ ?_) | refine Q_thenN ?_ | fail)
 all_goals (try exact sd)
 all_goals (try refine F_done ?_)
 refine Ev_seedB (σ.boxes.length + 2) 0 28 1 (by (try simp only [app_get, app_get0, List.getElem?_cons_succ, List.getElem?_cons_zero]) <;> exact rfl) (by (try simp only [List.getElem?_cons_succ, List.getElem?_cons_zero]) <;> exact rfl) (by decide) (by (try simp only [app_len, List.length_cons, List.length_nil, Nat.zero_add, Nat.reduceAdd, app_set, app_set0, List.set_cons_succ, List.set_cons_zero]) <;> exact rfl) (by (try simp only [List.append_assoc, List.cons_append, List.nil_append]) <;> exact rfl) ?_
 refine Ev_seedB (σ.boxes.length + 2) 1 66 2 (by (try simp only [app_get, app_get0, List.getElem?_cons_succ, List.getElem?_cons_zero]) <;> exact rfl) (by (try simp only [List.getElem?_cons_succ, List.getElem?_cons_zero]) <;> exact rfl) (by decide) (by (try simp only [app_len, List.length_cons, List.length_nil, Nat.zero_add, Nat.reduceAdd, app_set, app_set0, List.set_cons_succ, List.set_cons_zero]) <;> exact rfl) (by (try simp only [List.append_assoc, List.cons_append, List.nil_append]) <;> exact rfl) ?_
 refine Ev_lp (S.length) (fun i => [(4, i64 i)]) (fun i => ⟨σ.rows ++ [some ⟨secs (S.take i), 28, 1⟩, some ⟨[], 66, 2⟩], σ.boxes ++ [some ⟨25, [.sl (secs S), .sl (pends W), .int .i64 L, .bool O]⟩, some ⟨25, [.slt [], .slt [], .int .i64 0, .bool false]⟩, some ⟨25, [.row σ.rows.length i, .row (σ.rows.length + 1) 0, .int .i64 L, .bool O]⟩], σ.maps⟩) [11, 12, 13, 14, 15, 16, 17, 18, 19, 20, 21, 22, 23, 24, 25, 26, 27, 28, 29] ?_ (by simp [secs]) (fun i hi => ?_)
 ·exact le1
 by_cases hi' : i < S.length
 ·have hl : (S.take i).length = i := by rw [List.length_take]; omega
  have hg := secs_get hi'
  have hs := take_snocS hi'
  have hb := hC.2.1 _ (getD_memS hi')
  repeat' (first | (show Ev _ (.region _ _ true) _ _; refine D_startA [51, 54, 65, 68, 100026, 99998] mix ?_) | (show DrD _ _ _ [] _ _ _ _; refine D_nil ?_; try dsimp only) | (show DrD _ EA _ (_ :: _) _ _ _ _; first | refine D_runLA tok ?_ ?_ (h := by intro R; simp (maxSteps := 1000000) (disch := omega) only [go_sem, wrap_i64_id, hg, hl, hs]; with_reducible exact rfl)) | (show DrD _ _ _ (_ :: _) _ _ _ _; first | refine D_store tok ?_ ?_ | refine D_eff tok ?_ ?_ | refine D_hold tok ?_ ?_) | (show Ev _ _ _ _; first | refine Ev_seq ?_ | refine W_reg ?_ | refine Ev_block ?_ | refine W_ifY ?_ | refine Ev_skip ?_) | (show EvD _ _ [] _ _ _; refine W_nil ?_) | (show EvD _ _ (_ :: _) _ _ _; first | refine W_run tok ?_ ?_ (by simp (maxSteps := 1000000) (disch := omega) only [go_sem, wrap_i64_id, hg, hl, hs]; with_reducible exact rfl)) | refine Q_thenN ?_ | refine Q_blkN ?_ | fail)
  all_goals (try exact sd)
  all_goals (try refine F_done ?_)
  refine Q_rndN ?_ (by omega) ?_
  rotate_left
  ·rfl
  repeat (first | exact LeL.nil | refine LeL.cons2 ?_ (Le.undef _) | refine LeL.cons2 ?_ (Le.refl _) | refine LeL.cons2 ?_ (Le.sl _) | refine LeL.cons2 ?_ (Le.eq (by first | rfl | exact congrArg _ (by omega))) | refine LeL.cons2 ?_ (Le.eq ?_))
 ·obtain rfl : i = S.length := by omega
  rw [List.take_length]
  repeat' (first | (show Ev _ _ _ _; first | refine Ev_seq ?_ | refine W_reg ?_ | refine Ev_block ?_ | refine W_ifN ?_ | refine Ev_exit ?_) | (show EvD _ _ [] _ _ _; refine W_nil ?_) | (show EvD _ _ (_ :: _) _ _ _; refine W_run tok ?_ ?_) | refine Q_thenN ?_ | refine Q_thenE ?_ | refine Q_blkE ?_ | refine Q_rndE ?_ | fail)
  all_goals (try exact sd)
  all_goals (try refine F_done ?_)
  refine Ev_lp (W.length) (fun j => [(5, i64 j)]) (fun j => ⟨σ.rows ++ [some ⟨secs S, 28, 1⟩, some ⟨pends (W.take j), 66, 2⟩], σ.boxes ++ [some ⟨25, [.sl (secs S), .sl (pends W), .int .i64 L, .bool O]⟩, some ⟨25, [.slt [], .slt [], .int .i64 0, .bool false]⟩, some ⟨25, [.row σ.rows.length S.length, .row (σ.rows.length + 1) j, .int .i64 L, .bool O]⟩], σ.maps⟩) [30, 31, 32, 33, 34, 35, 36, 37, 38, 39, 40, 41, 42, 43, 44, 45, 46, 47, 48, 49, 50, 51, 52, 53, 54, 55, 56] ?_ (by simp [pends]) (fun j hi => ?_)
  ·exact le1
  by_cases hj' : j < W.length
  ·have hl : (W.take j).length = j := by rw [List.length_take]; omega
   have hg := pends_get hj'
   have hs := take_snocW hj'
   have hb := hC.2.2 _ (getD_memW hj')
   repeat' (first | (show Ev _ (.region _ _ true) _ _; refine D_startA [51, 54, 65, 68, 100052, 99998] mix ?_) | (show DrD _ _ _ [] _ _ _ _; refine D_nil ?_; try dsimp only) | (show DrD _ EA _ (_ :: _) _ _ _ _; first | refine D_runLA tok ?_ ?_ (h := by intro R; simp (maxSteps := 1000000) (disch := omega) only [go_sem, wrap_i64_id, hg, hl, hs]; with_reducible exact rfl)) | (show DrD _ _ _ (_ :: _) _ _ _ _; first | refine D_store tok ?_ ?_ | refine D_eff tok ?_ ?_ | refine D_hold tok ?_ ?_) | (show Ev _ _ _ _; first | refine Ev_seq ?_ | refine W_reg ?_ | refine Ev_block ?_ | refine W_ifY ?_ | refine Ev_skip ?_) | (show EvD _ _ [] _ _ _; refine W_nil ?_) | (show EvD _ _ (_ :: _) _ _ _; first | refine W_run tok ?_ ?_ (by simp (maxSteps := 1000000) (disch := omega) only [go_sem, wrap_i64_id, hg, hl, hs]; with_reducible exact rfl)) | refine Q_thenN ?_ | refine Q_blkN ?_ | fail)
   all_goals (try exact sd)
   all_goals (try refine F_done ?_)
   refine Q_rndN ?_ (by omega) ?_
   rotate_left
   ·rfl
   repeat (first | exact LeL.nil | refine LeL.cons2 ?_ (Le.undef _) | refine LeL.cons2 ?_ (Le.refl _) | refine LeL.cons2 ?_ (Le.sl _) | refine LeL.cons2 ?_ (Le.eq (by first | rfl | exact congrArg _ (by omega))) | refine LeL.cons2 ?_ (Le.eq ?_))
  ·obtain rfl : j = W.length := by omega
   rw [List.take_length]
   repeat' (first | (show Ev _ _ _ _; first | refine Ev_seq ?_ | refine W_reg ?_ | refine W_ifN ?_ | refine Ev_exit ?_ | refine Ev_ret ?_) | (show EvD _ _ [] _ _ _; refine W_nil ?_) | (show EvD _ _ (_ :: _) _ _ _; refine W_run tok ?_ ?_) | (show RetQ _ _ (RP _ _) _ _; refine R_ret ?_ ?_) | (show FrzTo _ _ _ _; refine F_row ?_) | refine Q_thenN ?_ | refine Q_thenE ?_ | refine Q_blkE ?_ | refine Q_rndE ?_ | fail)
   all_goals (try exact sd)
   all_goals (try refine F_done ?_)
   all_goals rfl
instance i_bursarref04_Copy (S : List (List UInt8)) (W : List (Int × List UInt8)) (L : Int) (O : Bool) : Con Try.prog 9 [diskD S W L O] (szP S W ∧ ((∀ b ∈ S, b.length ≤ 140737488355328) ∧ ∀ p ∈ W, p.2.length ≤ 140737488355328)) (diskD S W L O) := ⟨c_bursarref04_Copy S  W  L  O ⟩
theorem same_secs {S S' : List (List UInt8)} (h : S.length = S'.length) (k : ∀ i, i < S.length → S.getD i [] = S'.getD i []) : S = S' := by
 apply List.ext_getElem h
 intro i h1 h2
 have := k i h1
 rw [List.getD_eq_getElem?_getD, List.getD_eq_getElem?_getD, List.getElem?_eq_getElem h1, List.getElem?_eq_getElem h2] at this
 exact this
theorem same_pends {S S' : List (Int × List UInt8)} (h : S.length = S'.length) (k : ∀ i, i < S.length → (S.getD i (0, [])).1 = (S'.getD i (0, [])).1 ∧ (S.getD i (0, [])).2 = (S'.getD i (0, [])).2) : S = S' := by
 apply List.ext_getElem h
 intro i h1 h2
 have := k i h1
 rw [List.getD_eq_getElem?_getD, List.getD_eq_getElem?_getD, List.getElem?_eq_getElem h1, List.getElem?_eq_getElem h2] at this
 exact Prod.ext this.1 this.2
def parts (n : Nat) (p : Nat → Bool) : Nat := (List.range n).findIdx p
theorem parts_le (n : Nat) (p : Nat → Bool) : parts n p ≤ n := by have := findIdx_le p (List.range n); simpa [parts] using this
theorem parts_lt {n : Nat} {p : Nat → Bool} {i : Nat} (h : i < parts n p) : p i = false := by
 have := List.not_of_lt_findIdx h
 simpa using this
theorem parts_eq {n : Nat} {p : Nat → Bool} (h : parts n p < n) : p (parts n p) = true := by
 have h' : (List.range n).findIdx p < (List.range n).length := by simpa [parts] using h
 have := List.findIdx_getElem (w := h')
 simpa [parts] using this
theorem parts_all {n : Nat} {p : Nat → Bool} (h : ¬ parts n p < n) {i : Nat} (hi : i < n) : p i = false := by
 have h1 := parts_le n p
 have h2 : parts n p = n := by omega
 exact parts_lt (n := n) (by omega)
def neS (S S' : List (List UInt8)) (i : Nat) : Bool := !decide (S.getD i [] = S'.getD i [])
def neW (W W' : List (Int × List UInt8)) (i : Nat) : Bool := !decide ((W.getD i (0, [])).1 = (W'.getD i (0, [])).1 ∧ (W.getD i (0, [])).2 = (W'.getD i (0, [])).2)
theorem c_bursarref04_Same (S : List (List UInt8)) (W : List (Int × List UInt8)) (L : Int) (O : Bool) (S' : List (List UInt8)) (W' : List (Int × List UInt8)) (L' : Int) (O' : Bool) (hC : szP S W ∧ szP S' W') : Pure Try.prog n_bursarref04_Same [diskD S W L O, diskD S' W' L' O'] (.bool (decide (S = S' ∧ W = W' ∧ L = L' ∧ O = O'))) := by
 refine Pure.go tok (rs := [.tmp 4]) [diskD S W L O, diskD S' W' L' O', .undef, .undef, .undef, .undef, .undef, .undef, .undef, .undef, .undef, .undef, .undef, .undef, .undef, .undef, .undef, .undef, .undef, .undef, .undef, .undef, .undef, .undef, .undef, .undef, .undef, .undef, .undef, .undef, .undef, .undef, .undef, .undef, .undef, .undef, .undef, .undef, .undef, .undef, .undef, .undef, .undef, .undef, .undef, .undef, .undef, .undef, .undef, .undef, .undef, .undef, .undef, .undef, .undef, .undef, .undef, .undef, .undef, .undef, .undef, .undef, .undef, .undef, .undef, .undef, .undef, .undef, .undef, .undef, .undef, .undef, .undef, .undef, .undef, .undef, .undef, .undef, .undef, .undef, .undef, .undef, .undef, .undef, .undef, .undef, .undef, .undef, .undef, .undef, .undef, .undef, .undef, .undef] Try.func12 (fun σ => ?_)
 by_cases c1 : S.length = S'.length
 ·by_cases c2 : W.length = W'.length
  ·by_cases c3 : L = L'
   ·by_cases c4 : O = O'
    ·have c4' : (O == O') = true := by simp [c4]
     have l1 := parts_le S.length (neS S S')
     have l2 := parts_le W.length (neW W W')
     repeat' (first | (show Ev _ _ _ _; first | refine Ev_seq ?_ | refine W_reg ?_ | refine Ev_block ?_ | refine W_ifF ?_ | refine Ev_skip ?_) | (show EvD _ _ [] _ _ _; refine W_nil ?_) | (show EvD _ _ (⟨_, _, _, _, _, some _⟩ :: _) _ _ _; refine W_grdN ?_) | (show EvD _ _ (_ :: _) _ _ _; first | refine W_run tok ?_ ?_ (by simp (maxSteps := 1000000) (disch := omega) only [go_sem, c4']; with_reducible exact rfl)) | refine Q_thenN ?_ | fail)
     all_goals (try exact sd)
     all_goals (try refine F_done ?_)
     refine Ev_lp (parts S.length (neS S S')) (fun i => [(5, i64 i)]) (fun i => ⟨σ.rows, σ.boxes ++ [some ⟨25, [.sl (secs S), .sl (pends W), .int .i64 L, .bool O]⟩, some ⟨25, [.sl (secs S'), .sl (pends W'), .int .i64 L', .bool O']⟩], σ.maps⟩) [4, 37, 38, 39, 40, 41, 42, 43, 44, 45, 46, 47, 48, 49, 50, 51, 52, 53, 54, 55, 56] ?_ (by first | rfl | (simp only [List.take_zero, List.append_nil]; done)) (fun i hi => ?_)
     ·exact le1
     by_cases hi' : i < parts S.length (neS S S')
     ·have hil : i < S.length := by omega
      have hg := secs_get hil
      have hg' := secs_get (S := S') (i := i) (by omega)
      have hb := parts_lt hi'
      simp only [neS, Bool.not_eq_false', decide_eq_true_eq] at hb
      repeat' (first | (show Ev _ (.region _ _ true) _ _; refine D_start [51, 54, 65, 68] mix ?_) | (show DrD _ _ _ [] _ _ _ _; refine D_nil ?_; try dsimp only) | (show DrD _ (EB _ _) _ (_ :: _) _ _ _ _; first | refine D_runL tok ?_ ?_ (h := by intro R; simp (maxSteps := 1000000) (disch := omega) only [go_sem, wrap_i64_id, hg, hg', hb]; with_reducible exact rfl)) | (show Ev _ _ _ _; first | refine Ev_seq ?_ | refine W_reg ?_ | refine Ev_block ?_ | refine W_ifF ?_ | refine W_ifY ?_ | refine Ev_skip ?_) | (show EvD _ _ [] _ _ _; refine W_nil ?_) | (show EvD _ _ (_ :: _) _ _ _; first | refine W_run tok ?_ ?_ (by simp (maxSteps := 1000000) (disch := omega) only [go_sem, wrap_i64_id, hg, hg', hb]; with_reducible exact rfl)) | refine Q_thenN ?_ | refine Q_blkN ?_ | fail)
      all_goals (try exact sd)
      all_goals (try refine F_done ?_)
      refine Q_rndN ?_ (by omega) ?_
      rotate_left
      ·rfl
      repeat (first | exact LeL.nil | refine LeL.cons2 ?_ (Le.undef _) | refine LeL.cons2 ?_ (Le.refl _) | refine LeL.cons2 ?_ (Le.sl _) | refine LeL.cons2 ?_ (Le.eq (by first | rfl | exact congrArg _ (by omega))) | refine LeL.cons2 ?_ (Le.eq ?_))
     ·obtain rfl : i = parts S.length (neS S S') := by omega
      by_cases hS : parts S.length (neS S S') < S.length
      ·have hb := parts_eq hS
       simp only [neS, Bool.not_eq_true', decide_eq_false_iff_not] at hb
       have hg := secs_get hS
       have hg' := secs_get (S := S') (i := parts S.length (neS S S')) (by omega)
       have hne : S ≠ S' := fun h => hb (by rw [h])
       repeat' (first | (show Ev _ (.region _ _ true) _ _; refine D_start [51, 54, 65, 68] mix ?_) | (show DrD _ _ _ [] _ _ _ _; refine D_nil ?_; try dsimp only) | (show DrD _ (EB _ _) _ (_ :: _) _ _ _ _; first | refine D_runL tok ?_ ?_ (h := by intro R; simp (maxSteps := 1000000) (disch := omega) only [go_sem, wrap_i64_id, hg, hg']; with_reducible exact rfl)) | (show Ev _ _ _ _; first | refine Ev_seq ?_ | refine W_reg ?_ | refine Ev_block ?_ | refine W_ifY ?_ | refine Ev_skip ?_ | refine Ev_ret ?_) | (show EvD _ _ [] _ _ _; refine W_nil ?_) | (show EvD _ _ (_ :: _) _ _ _; first | refine W_run tok ?_ ?_ (by simp (maxSteps := 1000000) (disch := omega) only [go_sem, wrap_i64_id, hg, hg']; with_reducible exact rfl)) | (show RetQ _ _ (RP _ _) _ _; refine R_ret ?_ ?_) | refine Q_thenN ?_ | refine Q_thenR ?_ | refine Q_blkR ?_ | refine Q_rndR ?_ | fail)
       all_goals (try exact sd)
       all_goals (try refine F_done ?_)
       all_goals (simp [hne])
      ·have hSS : S = S' := same_secs c1 (fun k hk => by have := parts_all hS hk; simpa [neS] using this)
       repeat' (first | (show Ev _ _ _ _; first | refine Ev_seq ?_ | refine W_reg ?_ | refine Ev_block ?_ | refine W_ifN ?_ | refine Ev_exit ?_) | (show EvD _ _ [] _ _ _; refine W_nil ?_) | (show EvD _ _ (_ :: _) _ _ _; first | refine W_run tok ?_ ?_ (by simp (maxSteps := 1000000) (disch := omega) only [go_sem, wrap_i64_id]; with_reducible exact rfl)) | refine Q_thenN ?_ | refine Q_thenE ?_ | refine Q_blkE ?_ | refine Q_rndE ?_ | fail)
       all_goals (try exact sd)
       all_goals (try refine F_done ?_)
       refine Ev_lp (parts W.length (neW W W')) (fun j => [(6, i64 j)]) (fun j => ⟨σ.rows, σ.boxes ++ [some ⟨25, [.sl (secs S), .sl (pends W), .int .i64 L, .bool O]⟩, some ⟨25, [.sl (secs S'), .sl (pends W'), .int .i64 L', .bool O']⟩], σ.maps⟩) [4, 57, 58, 59, 60, 61, 62, 63, 64, 65, 66, 67, 68, 69, 70, 71, 72, 73, 74, 75, 76, 77, 78, 79, 80, 81, 82, 83, 84, 85, 86, 87, 88, 89, 90, 91, 92, 93] ?_ (by first | rfl | (simp only [List.take_zero, List.append_nil]; done)) (fun j hi => ?_)
       ·exact le1
       by_cases hj' : j < parts W.length (neW W W')
       ·have hjl : j < W.length := by omega
        have hg := pends_get hjl
        have hg' := pends_get (W := W') (i := j) (by omega)
        have hb := parts_lt hj'
        simp only [neW, Bool.not_eq_false', decide_eq_true_eq] at hb
        have hb1 := hb.1
        have hb2 := hb.2
        repeat' (first | (show Ev _ (.region _ _ true) _ _; refine D_start [51, 54, 65, 68] mix ?_) | (show DrD _ _ _ [] _ _ _ _; refine D_nil ?_; try dsimp only) | (show DrD _ (EB _ _) _ (_ :: _) _ _ _ _; first | refine D_runL tok ?_ ?_ (h := by intro R; simp (maxSteps := 1000000) (disch := omega) only [go_sem, wrap_i64_id, hg, hg', hb1, hb2]; with_reducible exact rfl)) | (show Ev _ _ _ _; first | refine Ev_seq ?_ | refine W_reg ?_ | refine Ev_block ?_ | refine W_ifF ?_ | refine W_ifY ?_ | refine Ev_skip ?_) | (show EvD _ _ [] _ _ _; refine W_nil ?_) | (show EvD _ _ (_ :: _) _ _ _; first | refine W_run tok ?_ ?_ (by simp (maxSteps := 1000000) (disch := omega) only [go_sem, wrap_i64_id, hg, hg', hb1, hb2]; with_reducible exact rfl)) | refine Q_thenN ?_ | refine Q_blkN ?_ | fail)
        all_goals (try exact sd)
        all_goals (try refine F_done ?_)
        refine Q_rndN ?_ (by omega) ?_
        rotate_left
        ·rfl
        repeat (first | exact LeL.nil | refine LeL.cons2 ?_ (Le.undef _) | refine LeL.cons2 ?_ (Le.refl _) | refine LeL.cons2 ?_ (Le.sl _) | refine LeL.cons2 ?_ (Le.eq (by first | rfl | exact congrArg _ (by omega))) | refine LeL.cons2 ?_ (Le.eq ?_))
       ·obtain rfl : j = parts W.length (neW W W') := by omega
        by_cases hW : parts W.length (neW W W') < W.length
        ·have hb := parts_eq hW
         simp only [neW, Bool.not_eq_true', decide_eq_false_iff_not] at hb
         have hg := pends_get hW
         have hg' := pends_get (W := W') (i := parts W.length (neW W W')) (by omega)
         have hne : W ≠ W' := fun h => hb (by rw [h]; exact ⟨rfl, rfl⟩)
         repeat' (first | (show Ev _ (.region _ _ true) _ _; refine D_start [51, 54, 65, 68] mix ?_) | (show DrD _ _ _ [] _ _ _ _; refine D_nil ?_; try dsimp only) | (show DrD _ _ _ (⟨_, _, _, _, _, some _⟩ :: _) _ _ _ _; refine D_grdP (fun h => ?_) (fun h => ?_)) | (show DrD _ (EB _ _) _ (_ :: _) _ _ _ _; first | refine D_runL tok ?_ ?_ (h := by intro R; simp (maxSteps := 1000000) (disch := omega) only [go_sem, wrap_i64_id, hg, hg']; with_reducible exact rfl)) | (show Ev _ _ _ _; first | refine Ev_seq ?_ | refine W_reg ?_ | refine Ev_block ?_ | refine W_ifT ?_ | refine W_ifY ?_ | refine W_ifP (fun h => ?_) (fun h => ?_) | refine Ev_skip ?_ | refine Ev_ret ?_) | (show EvD _ _ [] _ _ _; refine W_nil ?_) | (show EvD _ _ (_ :: _) _ _ _; first | refine W_run tok ?_ ?_ (by simp (maxSteps := 1000000) (disch := omega) only [go_sem, wrap_i64_id, hg, hg']; with_reducible exact rfl)) | (show RetQ _ _ (RP _ _) _ _; refine R_ret ?_ ?_) | refine Q_thenN ?_ | refine Q_thenR ?_ | refine Q_blkN ?_ | refine Q_blkR ?_ | refine Q_rndR ?_ | fail)
         all_goals (try exact sd)
         all_goals (try refine F_done ?_)
         all_goals first | (simp [hne]; done) | (exfalso; apply hb; constructor <;> (apply Classical.not_not.1; assumption))
        ·have hWW : W = W' := same_pends c2 (fun k hk => by have := parts_all hW hk; simpa [neW] using this)
         repeat' (first | (show Ev _ _ _ _; first | refine Ev_seq ?_ | refine W_reg ?_ | refine W_ifN ?_ | refine Ev_exit ?_ | refine Ev_ret ?_) | (show EvD _ _ [] _ _ _; refine W_nil ?_) | (show EvD _ _ (_ :: _) _ _ _; first | refine W_run tok ?_ ?_ (by simp (maxSteps := 1000000) (disch := omega) only [go_sem, wrap_i64_id]; with_reducible exact rfl)) | (show RetQ _ _ (RP _ _) _ _; refine R_ret ?_ ?_) | refine Q_thenN ?_ | refine Q_thenE ?_ | refine Q_blkE ?_ | refine Q_rndE ?_ | fail)
         all_goals (try exact sd)
         all_goals (try refine F_done ?_)
         all_goals (simp [hSS, hWW, c3, c4])
    ·have c4' : (O == O') = false := by simp [c4]
     repeat' (first | (show Ev _ _ _ _; first | refine Ev_seq ?_ | refine W_reg ?_ | refine W_ifT ?_ | refine Ev_ret ?_) | (show EvD _ _ [] _ _ _; refine W_nil ?_) | (show EvD _ _ (⟨_, _, _, _, _, some _⟩ :: _) _ _ _; refine W_grdN ?_) | (show EvD _ _ (_ :: _) _ _ _; first | refine W_run tok ?_ ?_ (by simp (maxSteps := 1000000) (disch := omega) only [go_sem, c4']; with_reducible exact rfl)) | (show RetQ _ _ (RP _ _) _ _; refine R_ret ?_ ?_) | refine Q_thenN ?_ | refine Q_thenR ?_ | fail)
     all_goals (try exact sd)
     all_goals (try refine F_done ?_)
     all_goals (simp [c4])
   ·repeat' (first | (show Ev _ _ _ _; first | refine Ev_seq ?_ | refine W_reg ?_ | refine W_ifT ?_ | refine Ev_ret ?_) | (show EvD _ _ [] _ _ _; refine W_nil ?_) | (show EvD _ _ (⟨_, _, _, _, _, some _⟩ :: _) _ _ _; first | refine W_grdY ?_ | refine W_grdN ?_) | (show EvD _ _ (_ :: _) _ _ _; refine W_run tok ?_ ?_) | (show RetQ _ _ (RP _ _) _ _; refine R_ret ?_ ?_) | refine Q_thenN ?_ | refine Q_thenR ?_ | fail)
    all_goals (try exact sd)
    all_goals (try refine F_done ?_)
    all_goals (simp [c3])
  ·have hne : W ≠ W' := fun h => c2 (by rw [h])
   repeat' (first | (show Ev _ _ _ _; first | refine Ev_seq ?_ | refine W_reg ?_ | refine W_ifT ?_ | refine Ev_ret ?_) | (show EvD _ _ [] _ _ _; refine W_nil ?_) | (show EvD _ _ (⟨_, _, _, _, _, some _⟩ :: _) _ _ _; first | refine W_grdY ?_ | refine W_grdN ?_) | (show EvD _ _ (_ :: _) _ _ _; refine W_run tok ?_ ?_) | (show RetQ _ _ (RP _ _) _ _; refine R_ret ?_ ?_) | refine Q_thenN ?_ | refine Q_thenR ?_ | fail)
   all_goals (try exact sd)
   all_goals (try refine F_done ?_)
   all_goals (simp [hne])
 ·have hne : S ≠ S' := fun h => c1 (by rw [h])
  repeat' (first | (show Ev _ _ _ _; first | refine Ev_seq ?_ | refine W_reg ?_ | refine W_ifT ?_ | refine Ev_ret ?_) | (show EvD _ _ [] _ _ _; refine W_nil ?_) | (show EvD _ _ (⟨_, _, _, _, _, some _⟩ :: _) _ _ _; refine W_grdY ?_) | (show EvD _ _ (_ :: _) _ _ _; refine W_run tok ?_ ?_) | (show RetQ _ _ (RP _ _) _ _; refine R_ret ?_ ?_) | refine Q_thenN ?_ | refine Q_thenR ?_ | fail)
  all_goals (try exact sd)
  all_goals (try refine F_done ?_)
  all_goals (simp [hne])
instance i_bursarref04_Same (S : List (List UInt8)) (W : List (Int × List UInt8)) (L : Int) (O : Bool) (S' : List (List UInt8)) (W' : List (Int × List UInt8)) (L' : Int) (O' : Bool) : Con Try.prog 12 [diskD S W L O, diskD S' W' L' O'] (szP S W ∧ szP S' W') (.bool (decide (S = S' ∧ W = W' ∧ L = L' ∧ O = O'))) := ⟨c_bursarref04_Same S  W  L  O  S'  W'  L'  O' ⟩
end Go.Val.Ytlfnmgmbmgacgaa
