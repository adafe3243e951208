/- Chapter 06: the document's appending, walked (printed by mk_y06d.py). -/
import Derived.Test.YtlfnmgmbmgacgaaY06c
import Derived.Test.YtlfnmgmbmgacgaaVM6
namespace Go.Val.Ytlfnmgmbmgacgaa
open Go Go.Val Go.Proofs Go.Proofs.Ytlfnmgmbmgacgaa
attribute [local irreducible] Ev EvD EvC thenQ blockQ RoundG RetQ
set_option maxRecDepth 100000
set_option maxHeartbeats 4000000
set_option linter.unusedSimpArgs false
set_option linter.unusedVariables false
attribute [local irreducible] nought64
theorem nought64_len : nought64.length = 64 := by unfold nought64; simp
theorem runG (F : Nat → Dk → Dk × Int) (s : Dk) : runF F s 0 = (s, 0) := rfl
theorem ap_long (S : List (List UInt8)) (W : List (Int × List UInt8)) (L : Int) (O : Bool) (f l a n : Int) (d : List UInt8) (hC : (S.length < 1099511627776 ∧ W.length < 274877906944 ∧ L < 9223372036854775808) ∧ d.length < 1099511627776) (hm : mayL S W L f l a n) (hf : d.length ≤ 6000) (hr : roomL l a d.length) (h64 : (64 < (layF n d).length)) :
  Pure Try.prog n_bursarref06_Append [diskD S W L O, logD f l a n, .sl (bytes d)] (.tup [dkD (appR (S, W, L, O) f l a n d).1, lgD (appR (S, W, L, O) f l a n d).2.1, .int .i64 (appR (S, W, L, O) f l a n d).2.2]) := by
 have hz : szP S W := ⟨hC.1.1, by omega⟩
 obtain ⟨h1, h2, h3, h4, h5, h6, h7, h8, h9⟩ := id hm
 have h1S := h1.1
 have fm : decide (mayL S W L f l a n) = true := decide_eq_true hm
 have hmf : mayF n d := ⟨h8, h9, by omega⟩
 have ff : decide (mayF n d) = true := decide_eq_true hmf
 have hll := layF_len n d
 have fr : decide (roomL l a (d.length : Int)) = true := decide_eq_true hr
 have hE : appE (S, W, L, O) f l a n d = 0 := by unfold appE; rw [if_neg (by simp [hm, hmf]), if_neg (by simp [hr])]
 have hq : Int.tdiv (layF n d).length 64 = secQ d := by have hv := tdiv_nat (64 * ((d.length + 83) / 64)) 64; rw [hll]; unfold secQ; rw [show (64 * ((d.length + 83) / 64)) / 64 = (d.length + 83) / 64 by omega] at hv; exact hv
 have hqn : 0 ≤ secQ d ∧ secQ d ≤ 100 := by unfold secQ; omega
 have hL64 : 64 ≤ (layF n d).length := by omega
 have hL7 : (layF n d).length ≤ 7000 := by omega
 have hA : ∀ r : Dk × Int, runF (appF (f + a) (secQ d) (layF n d)) (S, W, L, O) 5 = r → appR (S, W, L, O) f l a n d = if r.2 ≠ 0 then (r.1, zeroL, r.2) else (r.1, (f, l, a + secQ d, n + 1), 0) := by
  intro r hr'
  unfold appR
  rw [if_neg (by simp [hE]), hr']
 have iL : Con Try.prog 20 [frameD n d] True (.str (layF n d)) := ⟨fun _ => c_bursarref05_Lay n d hmf⟩
 have hok0 : dkOK W.length (S, W, L, O) := ⟨hC.1.1, Nat.le_refl _, hC.1.2.2⟩
 have hz64 := nought64_len
 generalize hB : layF n d = B at *
 have hF0 : ∀ s, appF (f + a) (secQ d) B 0 s = wrF (f + a + 1) (B.drop 64) s := fun s => rfl
 have hF1 : ∀ s, appF (f + a) (secQ d) B 1 s = wrF (f + a + secQ d) nought64 s := fun s => rfl
 have hF2 : ∀ s, appF (f + a) (secQ d) B 2 s = flF s := fun s => rfl
 have hF3 : ∀ s, appF (f + a) (secQ d) B 3 s = wrF (f + a) (B.take 64) s := fun s => rfl
 have hF4 : ∀ s, appF (f + a) (secQ d) B 4 s = flF s := fun s => rfl
 generalize appF (f + a) (secQ d) B = F at *
 have hd64 : (B.drop 64).length = B.length - 64 := List.length_drop
 have ht64 : (B.take 64).length = 64 := by rw [List.length_take]; omega
 refine Pure.go tok (rs := [.cell 6 25, .cell 7 27, .tmp 8]) [diskD S W L O, logD f l a n, .sl (bytes d), .undef, .undef, .undef, .undef, .undef, .undef, .undef, .undef, .undef, .undef, .undef, .undef, .undef, .undef, .undef, .undef, .undef, .undef, .undef, .undef, .undef, .undef, .undef, .undef, .undef, .undef, .undef, .undef, .undef, .undef, .undef, .undef, .undef, .undef, .undef, .undef, .undef, .undef, .undef, .undef, .undef, .undef, .undef, .undef, .undef, .undef, .undef, .undef, .undef, .undef, .undef, .undef, .undef, .undef, .undef, .undef, .undef, .undef, .undef, .undef, .undef, .undef, .undef, .undef, .undef, .undef, .undef, .undef, .undef, .undef, .undef, .undef, .undef, .undef, .undef, .undef, .undef, .undef, .undef, .undef, .undef, .undef, .undef, .undef, .undef, .undef, .undef, .undef, .undef, .undef, .undef, .undef, .undef, .undef, .undef, .undef, .undef, .undef, .undef, .undef, .undef, .undef, .undef, .undef, .undef, .undef, .undef, .undef, .undef, .undef] Try.func11 (fun σ => ?_)
 have d64 : decide ((B.length : Int) > 64) = true := decide_eq_true (by omega)
 have o1 := wr_ok (at_ := f + a + 1) (b := B.drop 64) hok0
 have i1 := con_wrR (at_ := f + a + 1) (b := B.drop 64) hok0 (by omega) (by omega) (by omega)
 generalize hw1 : wrF (f + a + 1) (B.drop 64) (S, W, L, O) = q1 at o1 i1
 obtain ⟨⟨S1, W1, L1, O1⟩, e1⟩ := q1
 have r1 : runF F (S, W, L, O) 1 = ((S1, W1, L1, O1), e1) := run_one (runG _ _) rfl (by rw [hF0]; exact hw1)
 have hok1 : dkOK (W.length + 200) (S1, W1, L1, O1) := o1.mono (by omega)
 have i1 : Con Try.prog 25 [diskD S W L O, .int .i64 (f + a + 1), .str (B.drop 64)] True (.tup [diskD S1 W1 L1 O1, .int .i64 e1]) := i1
 by_cases he1 : e1 = 0
 ·subst he1
  have o2 := wr_ok (at_ := f + a + secQ d) (b := nought64) hok1
  have i2 := con_wrR (at_ := f + a + secQ d) (b := nought64) hok1 (by omega) (by omega) (by omega)
  generalize hw2 : wrF (f + a + secQ d) nought64 (S1, W1, L1, O1) = q2 at o2 i2
  obtain ⟨⟨S2, W2, L2, O2⟩, e2⟩ := q2
  have r2 : runF F (S, W, L, O) 2 = ((S2, W2, L2, O2), e2) := run_one r1 rfl (by rw [hF1]; exact hw2)
  have hok2 : dkOK (W.length + 400) (S2, W2, L2, O2) := o2.mono (by omega)
  have i2 : Con Try.prog 25 [diskD S1 W1 L1 O1, .int .i64 (f + a + secQ d), .str nought64] True (.tup [diskD S2 W2 L2 O2, .int .i64 e2]) := i2
  by_cases he2 : e2 = 0
  ·subst he2
   have o3 := fl_ok hok2
   have i3 := con_flR hok2 (by omega)
   generalize hw3 : flF (S2, W2, L2, O2) = q3 at o3 i3
   obtain ⟨⟨S3, W3, L3, O3⟩, e3⟩ := q3
   have r3 : runF F (S, W, L, O) 3 = ((S3, W3, L3, O3), e3) := run_one r2 rfl (by rw [hF2]; exact hw3)
   have hok3 : dkOK (W.length + 600) (S3, W3, L3, O3) := o3.mono (by omega)
   have i3 : Con Try.prog 26 [diskD S2 W2 L2 O2] True (.tup [diskD S3 W3 L3 O3, .int .i64 e3]) := i3
   by_cases he3 : e3 = 0
   ·subst he3
    have o4 := wr_ok (at_ := f + a) (b := B.take 64) hok3
    have i4 := con_wrR (at_ := f + a) (b := B.take 64) hok3 (by omega) (by omega) (by omega)
    generalize hw4 : wrF (f + a) (B.take 64) (S3, W3, L3, O3) = q4 at o4 i4
    obtain ⟨⟨S4, W4, L4, O4⟩, e4⟩ := q4
    have r4 : runF F (S, W, L, O) 4 = ((S4, W4, L4, O4), e4) := run_one r3 rfl (by rw [hF3]; exact hw4)
    have hok4 : dkOK (W.length + 800) (S4, W4, L4, O4) := o4.mono (by omega)
    have i4 : Con Try.prog 25 [diskD S3 W3 L3 O3, .int .i64 (f + a), .str (B.take 64)] True (.tup [diskD S4 W4 L4 O4, .int .i64 e4]) := i4
    by_cases he4 : e4 = 0
    ·subst he4
     have o5 := fl_ok hok4
     have i5 := con_flR hok4 (by omega)
     generalize hw5 : flF (S4, W4, L4, O4) = q5 at o5 i5
     obtain ⟨⟨S5, W5, L5, O5⟩, e5⟩ := q5
     have r5 : runF F (S, W, L, O) 5 = ((S5, W5, L5, O5), e5) := run_one r4 rfl (by rw [hF4]; exact hw5)
     have hok5 : dkOK (W.length + 1000) (S5, W5, L5, O5) := o5.mono (by omega)
     have i5 : Con Try.prog 26 [diskD S4 W4 L4 O4] True (.tup [diskD S5 W5 L5 O5, .int .i64 e5]) := i5
     by_cases he5 : e5 = 0
     ·subst he5
      have hX := hA _ r5
      rw [if_neg (by simp)] at hX
      rw [hX]
      repeat' (first | (show Ev _ (.region 21 _ true) _ _; refine D_startW2 [9, 49, 51, 54, 65, 68] (fun u v => σ.boxes ++ [some ⟨25, [.sl (secs S), .sl (pends W), .int .i64 L, .bool O]⟩, some ⟨27, [.int .i64 f, .int .i64 l, .int .i64 a, .int .i64 n]⟩, u, v, some ⟨46, [.int .i64 n, .sl (bytes d)]⟩, some ⟨25, [.sl (secs S5), .sl (pends W5), .int .i64 L5, .bool O5]⟩]) mix ?_) | (show DrD _ (EW2 _) _ [] _ _ _ _; refine D_nil ?_ (hE := ⟨_, _, _, _, rfl⟩); try dsimp only) | (show DrD _ (EW2 _) _ (_ :: _) _ _ _ _; first | refine D_runLW2 tok ?_ ?_ (h := by intro R u v M; simp (maxSteps := 1000000) (disch := omega) only [go_sem, wrap_i64_id, fm, ff, fr, hq, d64, List.take_length, List.drop_zero]; with_reducible exact rfl) | refine D_store tok ?_ ?_ (hE := ⟨_, _, _, _, rfl⟩)) | (show Ev _ (.region _ _ true) _ _; refine D_startA [9, 49, 51, 54, 65, 68, 99998] mix ?_) | (show DrD _ _ _ [] _ _ _ _; refine D_nil ?_; try dsimp only) | (show DrD _ EA _ (_ :: _) _ _ _ _; first | refine D_runLA tok ?_ ?_ (h := by intro R; simp (maxSteps := 1000000) (disch := omega) only [go_sem, wrap_i64_id, fm, ff, fr, hq, d64, List.take_length, List.drop_zero]; with_reducible exact rfl)) | (show DrD _ _ _ (_ :: _) _ _ _ _; first | refine D_con ?_ ?_ | refine D_store tok ?_ ?_ | refine D_hold tok ?_ ?_) | (show Ev _ _ _ _; first | refine Ev_seq ?_ | refine W_reg ?_ | refine W_ifT ?_ | refine W_ifF ?_ | refine Ev_skip ?_ | refine Ev_ret ?_) | (show EvD _ _ [] _ _ _; refine W_nil ?_) | (show EvD _ _ (_ :: _) _ _ _; first | refine W_run tok ?_ ?_ (by simp (maxSteps := 1000000) (disch := omega) only [go_sem, wrap_i64_id, fm, ff, fr, hq, d64, List.take_length, List.drop_zero]; with_reducible exact rfl) | refine W_callee ?_) | (show EvC _ _ _ _ _ _ _ _ _; refine W_con ?_ ?_) | (show RetQ _ _ (RP _ _) _ _; refine R_ret ?_ ?_) | refine Q_thenN ?_ | fail)
      all_goals (try exact sd)
      all_goals (try refine F_done ?_)
      all_goals first | rfl | trace_state
     ·have hX := hA _ ((run_bad (k := 4) (by rw [r5]; exact he5) 5 (by omega)).trans r5)
      rw [if_pos he5] at hX
      rw [hX]
      have z5 : decide (e5 = 0) = false := decide_eq_false he5
      repeat' (first | (show Ev _ (.region _ _ true) _ _; refine D_startA [9, 49, 51, 54, 65, 68, 99998] mix ?_) | (show DrD _ _ _ [] _ _ _ _; refine D_nil ?_; try dsimp only) | (show DrD _ EA _ (_ :: _) _ _ _ _; first | refine D_runLA tok ?_ ?_ (h := by intro R; simp (maxSteps := 1000000) (disch := omega) only [go_sem, wrap_i64_id, fm, ff, fr, hq, d64, List.take_length, List.drop_zero, z5]; with_reducible exact rfl)) | (show DrD _ _ _ (_ :: _) _ _ _ _; first | refine D_con ?_ ?_ | refine D_store tok ?_ ?_ | refine D_hold tok ?_ ?_) | (show Ev _ _ _ _; first | refine Ev_seq ?_ | refine W_reg ?_ | refine W_ifT ?_ | refine W_ifF ?_ | refine Ev_skip ?_ | refine Ev_ret ?_) | (show EvD _ _ [] _ _ _; refine W_nil ?_) | (show EvD _ _ (_ :: _) _ _ _; first | refine W_run tok ?_ ?_ (by simp (maxSteps := 1000000) (disch := omega) only [go_sem, wrap_i64_id, fm, ff, fr, hq, d64, List.take_length, List.drop_zero, z5]; with_reducible exact rfl) | refine W_callee ?_) | (show EvC _ _ _ _ _ _ _ _ _; refine W_con ?_ ?_) | (show RetQ _ _ (RP _ _) _ _; refine R_ret ?_ ?_) | refine Q_thenN ?_ | refine Q_thenR ?_ | fail)
      all_goals (try exact sd)
      all_goals (try refine F_done ?_)
      all_goals first | rfl | trace_state
    ·have hX := hA _ ((run_bad (k := 3) (by rw [r4]; exact he4) 5 (by omega)).trans r4)
     rw [if_pos he4] at hX
     rw [hX]
     have z4 : decide (e4 = 0) = false := decide_eq_false he4
     repeat' (first | (show Ev _ (.region _ _ true) _ _; refine D_startA [9, 49, 51, 54, 65, 68, 99998] mix ?_) | (show DrD _ _ _ [] _ _ _ _; refine D_nil ?_; try dsimp only) | (show DrD _ EA _ (_ :: _) _ _ _ _; first | refine D_runLA tok ?_ ?_ (h := by intro R; simp (maxSteps := 1000000) (disch := omega) only [go_sem, wrap_i64_id, fm, ff, fr, hq, d64, List.take_length, List.drop_zero, z4]; with_reducible exact rfl)) | (show DrD _ _ _ (_ :: _) _ _ _ _; first | refine D_con ?_ ?_ | refine D_store tok ?_ ?_ | refine D_hold tok ?_ ?_) | (show Ev _ _ _ _; first | refine Ev_seq ?_ | refine W_reg ?_ | refine W_ifT ?_ | refine W_ifF ?_ | refine Ev_skip ?_ | refine Ev_ret ?_) | (show EvD _ _ [] _ _ _; refine W_nil ?_) | (show EvD _ _ (_ :: _) _ _ _; first | refine W_run tok ?_ ?_ (by simp (maxSteps := 1000000) (disch := omega) only [go_sem, wrap_i64_id, fm, ff, fr, hq, d64, List.take_length, List.drop_zero, z4]; with_reducible exact rfl) | refine W_callee ?_) | (show EvC _ _ _ _ _ _ _ _ _; refine W_con ?_ ?_) | (show RetQ _ _ (RP _ _) _ _; refine R_ret ?_ ?_) | refine Q_thenN ?_ | refine Q_thenR ?_ | fail)
     all_goals (try exact sd)
     all_goals (try refine F_done ?_)
     all_goals first | rfl | trace_state
   ·have hX := hA _ ((run_bad (k := 2) (by rw [r3]; exact he3) 5 (by omega)).trans r3)
    rw [if_pos he3] at hX
    rw [hX]
    have z3 : decide (e3 = 0) = false := decide_eq_false he3
    repeat' (first | (show Ev _ (.region _ _ true) _ _; refine D_startA [9, 49, 51, 54, 65, 68, 99998] mix ?_) | (show DrD _ _ _ [] _ _ _ _; refine D_nil ?_; try dsimp only) | (show DrD _ EA _ (_ :: _) _ _ _ _; first | refine D_runLA tok ?_ ?_ (h := by intro R; simp (maxSteps := 1000000) (disch := omega) only [go_sem, wrap_i64_id, fm, ff, fr, hq, d64, List.take_length, List.drop_zero, z3]; with_reducible exact rfl)) | (show DrD _ _ _ (_ :: _) _ _ _ _; first | refine D_con ?_ ?_ | refine D_store tok ?_ ?_ | refine D_hold tok ?_ ?_) | (show Ev _ _ _ _; first | refine Ev_seq ?_ | refine W_reg ?_ | refine W_ifT ?_ | refine W_ifF ?_ | refine Ev_skip ?_ | refine Ev_ret ?_) | (show EvD _ _ [] _ _ _; refine W_nil ?_) | (show EvD _ _ (_ :: _) _ _ _; first | refine W_run tok ?_ ?_ (by simp (maxSteps := 1000000) (disch := omega) only [go_sem, wrap_i64_id, fm, ff, fr, hq, d64, List.take_length, List.drop_zero, z3]; with_reducible exact rfl) | refine W_callee ?_) | (show EvC _ _ _ _ _ _ _ _ _; refine W_con ?_ ?_) | (show RetQ _ _ (RP _ _) _ _; refine R_ret ?_ ?_) | refine Q_thenN ?_ | refine Q_thenR ?_ | fail)
    all_goals (try exact sd)
    all_goals (try refine F_done ?_)
    all_goals first | rfl | trace_state
  ·have hX := hA _ ((run_bad (k := 1) (by rw [r2]; exact he2) 5 (by omega)).trans r2)
   rw [if_pos he2] at hX
   rw [hX]
   have z2 : decide (e2 = 0) = false := decide_eq_false he2
   repeat' (first | (show Ev _ (.region _ _ true) _ _; refine D_startA [9, 49, 51, 54, 65, 68, 99998] mix ?_) | (show DrD _ _ _ [] _ _ _ _; refine D_nil ?_; try dsimp only) | (show DrD _ EA _ (_ :: _) _ _ _ _; first | refine D_runLA tok ?_ ?_ (h := by intro R; simp (maxSteps := 1000000) (disch := omega) only [go_sem, wrap_i64_id, fm, ff, fr, hq, d64, List.take_length, List.drop_zero, z2]; with_reducible exact rfl)) | (show DrD _ _ _ (_ :: _) _ _ _ _; first | refine D_con ?_ ?_ | refine D_store tok ?_ ?_ | refine D_hold tok ?_ ?_) | (show Ev _ _ _ _; first | refine Ev_seq ?_ | refine W_reg ?_ | refine W_ifT ?_ | refine W_ifF ?_ | refine Ev_skip ?_ | refine Ev_ret ?_) | (show EvD _ _ [] _ _ _; refine W_nil ?_) | (show EvD _ _ (_ :: _) _ _ _; first | refine W_run tok ?_ ?_ (by simp (maxSteps := 1000000) (disch := omega) only [go_sem, wrap_i64_id, fm, ff, fr, hq, d64, List.take_length, List.drop_zero, z2]; with_reducible exact rfl) | refine W_callee ?_) | (show EvC _ _ _ _ _ _ _ _ _; refine W_con ?_ ?_) | (show RetQ _ _ (RP _ _) _ _; refine R_ret ?_ ?_) | refine Q_thenN ?_ | refine Q_thenR ?_ | fail)
   all_goals (try exact sd)
   all_goals (try refine F_done ?_)
   all_goals first | rfl | trace_state
 ·have hX := hA _ ((run_bad (k := 0) (by rw [r1]; exact he1) 5 (by omega)).trans r1)
  rw [if_pos he1] at hX
  rw [hX]
  have z1 : decide (e1 = 0) = false := decide_eq_false he1
  repeat' (first | (show Ev _ (.region _ _ true) _ _; refine D_startA [9, 49, 51, 54, 65, 68, 99998] mix ?_) | (show DrD _ _ _ [] _ _ _ _; refine D_nil ?_; try dsimp only) | (show DrD _ EA _ (_ :: _) _ _ _ _; first | refine D_runLA tok ?_ ?_ (h := by intro R; simp (maxSteps := 1000000) (disch := omega) only [go_sem, wrap_i64_id, fm, ff, fr, hq, d64, List.take_length, List.drop_zero, z1]; with_reducible exact rfl)) | (show DrD _ _ _ (_ :: _) _ _ _ _; first | refine D_con ?_ ?_ | refine D_store tok ?_ ?_ | refine D_hold tok ?_ ?_) | (show Ev _ _ _ _; first | refine Ev_seq ?_ | refine W_reg ?_ | refine W_ifT ?_ | refine W_ifF ?_ | refine Ev_skip ?_ | refine Ev_ret ?_) | (show EvD _ _ [] _ _ _; refine W_nil ?_) | (show EvD _ _ (_ :: _) _ _ _; first | refine W_run tok ?_ ?_ (by simp (maxSteps := 1000000) (disch := omega) only [go_sem, wrap_i64_id, fm, ff, fr, hq, d64, List.take_length, List.drop_zero, z1]; with_reducible exact rfl) | refine W_callee ?_) | (show EvC _ _ _ _ _ _ _ _ _; refine W_con ?_ ?_) | (show RetQ _ _ (RP _ _) _ _; refine R_ret ?_ ?_) | refine Q_thenN ?_ | refine Q_thenR ?_ | fail)
  all_goals (try exact sd)
  all_goals (try refine F_done ?_)
  all_goals first | rfl | trace_state
theorem ap_short (S : List (List UInt8)) (W : List (Int × List UInt8)) (L : Int) (O : Bool) (f l a n : Int) (d : List UInt8) (hC : (S.length < 1099511627776 ∧ W.length < 274877906944 ∧ L < 9223372036854775808) ∧ d.length < 1099511627776) (hm : mayL S W L f l a n) (hf : d.length ≤ 6000) (hr : roomL l a d.length) (h64 : ¬ (64 < (layF n d).length)) :
  Pure Try.prog n_bursarref06_Append [diskD S W L O, logD f l a n, .sl (bytes d)] (.tup [dkD (appR (S, W, L, O) f l a n d).1, lgD (appR (S, W, L, O) f l a n d).2.1, .int .i64 (appR (S, W, L, O) f l a n d).2.2]) := by
 have hz : szP S W := ⟨hC.1.1, by omega⟩
 obtain ⟨h1, h2, h3, h4, h5, h6, h7, h8, h9⟩ := id hm
 have h1S := h1.1
 have fm : decide (mayL S W L f l a n) = true := decide_eq_true hm
 have hmf : mayF n d := ⟨h8, h9, by omega⟩
 have ff : decide (mayF n d) = true := decide_eq_true hmf
 have hll := layF_len n d
 have fr : decide (roomL l a (d.length : Int)) = true := decide_eq_true hr
 have hE : appE (S, W, L, O) f l a n d = 0 := by unfold appE; rw [if_neg (by simp [hm, hmf]), if_neg (by simp [hr])]
 have hq : Int.tdiv (layF n d).length 64 = secQ d := by have hv := tdiv_nat (64 * ((d.length + 83) / 64)) 64; rw [hll]; unfold secQ; rw [show (64 * ((d.length + 83) / 64)) / 64 = (d.length + 83) / 64 by omega] at hv; exact hv
 have hqn : 0 ≤ secQ d ∧ secQ d ≤ 100 := by unfold secQ; omega
 have hL64 : 64 ≤ (layF n d).length := by omega
 have hL7 : (layF n d).length ≤ 7000 := by omega
 have hA : ∀ r : Dk × Int, runF (appF (f + a) (secQ d) (layF n d)) (S, W, L, O) 5 = r → appR (S, W, L, O) f l a n d = if r.2 ≠ 0 then (r.1, zeroL, r.2) else (r.1, (f, l, a + secQ d, n + 1), 0) := by
  intro r hr'
  unfold appR
  rw [if_neg (by simp [hE]), hr']
 have iL : Con Try.prog 20 [frameD n d] True (.str (layF n d)) := ⟨fun _ => c_bursarref05_Lay n d hmf⟩
 have hok0 : dkOK W.length (S, W, L, O) := ⟨hC.1.1, Nat.le_refl _, hC.1.2.2⟩
 have hz64 := nought64_len
 generalize hB : layF n d = B at *
 have hF0 : ∀ s, appF (f + a) (secQ d) B 0 s = wrF (f + a + 1) (B.drop 64) s := fun s => rfl
 have hF1 : ∀ s, appF (f + a) (secQ d) B 1 s = wrF (f + a + secQ d) nought64 s := fun s => rfl
 have hF2 : ∀ s, appF (f + a) (secQ d) B 2 s = flF s := fun s => rfl
 have hF3 : ∀ s, appF (f + a) (secQ d) B 3 s = wrF (f + a) (B.take 64) s := fun s => rfl
 have hF4 : ∀ s, appF (f + a) (secQ d) B 4 s = flF s := fun s => rfl
 generalize appF (f + a) (secQ d) B = F at *
 have hd64 : (B.drop 64).length = B.length - 64 := List.length_drop
 have ht64 : (B.take 64).length = 64 := by rw [List.length_take]; omega
 refine Pure.go tok (rs := [.cell 6 25, .cell 7 27, .tmp 8]) [diskD S W L O, logD f l a n, .sl (bytes d), .undef, .undef, .undef, .undef, .undef, .undef, .undef, .undef, .undef, .undef, .undef, .undef, .undef, .undef, .undef, .undef, .undef, .undef, .undef, .undef, .undef, .undef, .undef, .undef, .undef, .undef, .undef, .undef, .undef, .undef, .undef, .undef, .undef, .undef, .undef, .undef, .undef, .undef, .undef, .undef, .undef, .undef, .undef, .undef, .undef, .undef, .undef, .undef, .undef, .undef, .undef, .undef, .undef, .undef, .undef, .undef, .undef, .undef, .undef, .undef, .undef, .undef, .undef, .undef, .undef, .undef, .undef, .undef, .undef, .undef, .undef, .undef, .undef, .undef, .undef, .undef, .undef, .undef, .undef, .undef, .undef, .undef, .undef, .undef, .undef, .undef, .undef, .undef, .undef, .undef, .undef, .undef, .undef, .undef, .undef, .undef, .undef, .undef, .undef, .undef, .undef, .undef, .undef, .undef, .undef, .undef, .undef, .undef, .undef, .undef] Try.func11 (fun σ => ?_)
 have d64 : decide ((B.length : Int) > 64) = false := decide_eq_false (by omega)
 have r1 : runF F (S, W, L, O) 1 = ((S, W, L, O), 0) := run_one (runG _ _) rfl (by rw [hF0]; unfold wrF; rw [if_pos (by omega)])
 have hok1 : dkOK (W.length + 200) (S, W, L, O) := hok0.mono (by omega)
 have o2 := wr_ok (at_ := f + a + secQ d) (b := nought64) hok1
 have i2 := con_wrR (at_ := f + a + secQ d) (b := nought64) hok1 (by omega) (by omega) (by omega)
 generalize hw2 : wrF (f + a + secQ d) nought64 (S, W, L, O) = q2 at o2 i2
 obtain ⟨⟨S2, W2, L2, O2⟩, e2⟩ := q2
 have r2 : runF F (S, W, L, O) 2 = ((S2, W2, L2, O2), e2) := run_one r1 rfl (by rw [hF1]; exact hw2)
 have hok2 : dkOK (W.length + 400) (S2, W2, L2, O2) := o2.mono (by omega)
 have i2 : Con Try.prog 25 [diskD S W L O, .int .i64 (f + a + secQ d), .str nought64] True (.tup [diskD S2 W2 L2 O2, .int .i64 e2]) := i2
 by_cases he2 : e2 = 0
 ·subst he2
  have o3 := fl_ok hok2
  have i3 := con_flR hok2 (by omega)
  generalize hw3 : flF (S2, W2, L2, O2) = q3 at o3 i3
  obtain ⟨⟨S3, W3, L3, O3⟩, e3⟩ := q3
  have r3 : runF F (S, W, L, O) 3 = ((S3, W3, L3, O3), e3) := run_one r2 rfl (by rw [hF2]; exact hw3)
  have hok3 : dkOK (W.length + 600) (S3, W3, L3, O3) := o3.mono (by omega)
  have i3 : Con Try.prog 26 [diskD S2 W2 L2 O2] True (.tup [diskD S3 W3 L3 O3, .int .i64 e3]) := i3
  by_cases he3 : e3 = 0
  ·subst he3
   have o4 := wr_ok (at_ := f + a) (b := B.take 64) hok3
   have i4 := con_wrR (at_ := f + a) (b := B.take 64) hok3 (by omega) (by omega) (by omega)
   generalize hw4 : wrF (f + a) (B.take 64) (S3, W3, L3, O3) = q4 at o4 i4
   obtain ⟨⟨S4, W4, L4, O4⟩, e4⟩ := q4
   have r4 : runF F (S, W, L, O) 4 = ((S4, W4, L4, O4), e4) := run_one r3 rfl (by rw [hF3]; exact hw4)
   have hok4 : dkOK (W.length + 800) (S4, W4, L4, O4) := o4.mono (by omega)
   have i4 : Con Try.prog 25 [diskD S3 W3 L3 O3, .int .i64 (f + a), .str (B.take 64)] True (.tup [diskD S4 W4 L4 O4, .int .i64 e4]) := i4
   by_cases he4 : e4 = 0
   ·subst he4
    have o5 := fl_ok hok4
    have i5 := con_flR hok4 (by omega)
    generalize hw5 : flF (S4, W4, L4, O4) = q5 at o5 i5
    obtain ⟨⟨S5, W5, L5, O5⟩, e5⟩ := q5
    have r5 : runF F (S, W, L, O) 5 = ((S5, W5, L5, O5), e5) := run_one r4 rfl (by rw [hF4]; exact hw5)
    have hok5 : dkOK (W.length + 1000) (S5, W5, L5, O5) := o5.mono (by omega)
    have i5 : Con Try.prog 26 [diskD S4 W4 L4 O4] True (.tup [diskD S5 W5 L5 O5, .int .i64 e5]) := i5
    by_cases he5 : e5 = 0
    ·subst he5
     have hX := hA _ r5
     rw [if_neg (by simp)] at hX
     rw [hX]
     repeat' (first | (show Ev _ (.region 21 _ true) _ _; refine D_startW2 [9, 49, 51, 54, 65, 68] (fun u v => σ.boxes ++ [some ⟨25, [.sl (secs S), .sl (pends W), .int .i64 L, .bool O]⟩, some ⟨27, [.int .i64 f, .int .i64 l, .int .i64 a, .int .i64 n]⟩, u, v, some ⟨46, [.int .i64 n, .sl (bytes d)]⟩, some ⟨25, [.sl (secs S5), .sl (pends W5), .int .i64 L5, .bool O5]⟩]) mix ?_) | (show DrD _ (EW2 _) _ [] _ _ _ _; refine D_nil ?_ (hE := ⟨_, _, _, _, rfl⟩); try dsimp only) | (show DrD _ (EW2 _) _ (_ :: _) _ _ _ _; first | refine D_runLW2 tok ?_ ?_ (h := by intro R u v M; simp (maxSteps := 1000000) (disch := omega) only [go_sem, wrap_i64_id, fm, ff, fr, hq, d64, List.take_length, List.drop_zero]; with_reducible exact rfl) | refine D_store tok ?_ ?_ (hE := ⟨_, _, _, _, rfl⟩)) | (show Ev _ (.region _ _ true) _ _; refine D_startA [9, 49, 51, 54, 65, 68, 99998] mix ?_) | (show DrD _ _ _ [] _ _ _ _; refine D_nil ?_; try dsimp only) | (show DrD _ EA _ (_ :: _) _ _ _ _; first | refine D_runLA tok ?_ ?_ (h := by intro R; simp (maxSteps := 1000000) (disch := omega) only [go_sem, wrap_i64_id, fm, ff, fr, hq, d64, List.take_length, List.drop_zero]; with_reducible exact rfl)) | (show DrD _ _ _ (_ :: _) _ _ _ _; first | refine D_con ?_ ?_ | refine D_store tok ?_ ?_ | refine D_hold tok ?_ ?_) | (show Ev _ _ _ _; first | refine Ev_seq ?_ | refine W_reg ?_ | refine W_ifT ?_ | refine W_ifF ?_ | refine Ev_skip ?_ | refine Ev_ret ?_) | (show EvD _ _ [] _ _ _; refine W_nil ?_) | (show EvD _ _ (_ :: _) _ _ _; first | refine W_run tok ?_ ?_ (by simp (maxSteps := 1000000) (disch := omega) only [go_sem, wrap_i64_id, fm, ff, fr, hq, d64, List.take_length, List.drop_zero]; with_reducible exact rfl) | refine W_callee ?_) | (show EvC _ _ _ _ _ _ _ _ _; refine W_con ?_ ?_) | (show RetQ _ _ (RP _ _) _ _; refine R_ret ?_ ?_) | refine Q_thenN ?_ | fail)
     all_goals (try exact sd)
     all_goals (try refine F_done ?_)
     all_goals first | rfl | trace_state
    ·have hX := hA _ ((run_bad (k := 4) (by rw [r5]; exact he5) 5 (by omega)).trans r5)
     rw [if_pos he5] at hX
     rw [hX]
     have z5 : decide (e5 = 0) = false := decide_eq_false he5
     repeat' (first | (show Ev _ (.region _ _ true) _ _; refine D_startA [9, 49, 51, 54, 65, 68, 99998] mix ?_) | (show DrD _ _ _ [] _ _ _ _; refine D_nil ?_; try dsimp only) | (show DrD _ EA _ (_ :: _) _ _ _ _; first | refine D_runLA tok ?_ ?_ (h := by intro R; simp (maxSteps := 1000000) (disch := omega) only [go_sem, wrap_i64_id, fm, ff, fr, hq, d64, List.take_length, List.drop_zero, z5]; with_reducible exact rfl)) | (show DrD _ _ _ (_ :: _) _ _ _ _; first | refine D_con ?_ ?_ | refine D_store tok ?_ ?_ | refine D_hold tok ?_ ?_) | (show Ev _ _ _ _; first | refine Ev_seq ?_ | refine W_reg ?_ | refine W_ifT ?_ | refine W_ifF ?_ | refine Ev_skip ?_ | refine Ev_ret ?_) | (show EvD _ _ [] _ _ _; refine W_nil ?_) | (show EvD _ _ (_ :: _) _ _ _; first | refine W_run tok ?_ ?_ (by simp (maxSteps := 1000000) (disch := omega) only [go_sem, wrap_i64_id, fm, ff, fr, hq, d64, List.take_length, List.drop_zero, z5]; with_reducible exact rfl) | refine W_callee ?_) | (show EvC _ _ _ _ _ _ _ _ _; refine W_con ?_ ?_) | (show RetQ _ _ (RP _ _) _ _; refine R_ret ?_ ?_) | refine Q_thenN ?_ | refine Q_thenR ?_ | fail)
     all_goals (try exact sd)
     all_goals (try refine F_done ?_)
     all_goals first | rfl | trace_state
   ·have hX := hA _ ((run_bad (k := 3) (by rw [r4]; exact he4) 5 (by omega)).trans r4)
    rw [if_pos he4] at hX
    rw [hX]
    have z4 : decide (e4 = 0) = false := decide_eq_false he4
    repeat' (first | (show Ev _ (.region _ _ true) _ _; refine D_startA [9, 49, 51, 54, 65, 68, 99998] mix ?_) | (show DrD _ _ _ [] _ _ _ _; refine D_nil ?_; try dsimp only) | (show DrD _ EA _ (_ :: _) _ _ _ _; first | refine D_runLA tok ?_ ?_ (h := by intro R; simp (maxSteps := 1000000) (disch := omega) only [go_sem, wrap_i64_id, fm, ff, fr, hq, d64, List.take_length, List.drop_zero, z4]; with_reducible exact rfl)) | (show DrD _ _ _ (_ :: _) _ _ _ _; first | refine D_con ?_ ?_ | refine D_store tok ?_ ?_ | refine D_hold tok ?_ ?_) | (show Ev _ _ _ _; first | refine Ev_seq ?_ | refine W_reg ?_ | refine W_ifT ?_ | refine W_ifF ?_ | refine Ev_skip ?_ | refine Ev_ret ?_) | (show EvD _ _ [] _ _ _; refine W_nil ?_) | (show EvD _ _ (_ :: _) _ _ _; first | refine W_run tok ?_ ?_ (by simp (maxSteps := 1000000) (disch := omega) only [go_sem, wrap_i64_id, fm, ff, fr, hq, d64, List.take_length, List.drop_zero, z4]; with_reducible exact rfl) | refine W_callee ?_) | (show EvC _ _ _ _ _ _ _ _ _; refine W_con ?_ ?_) | (show RetQ _ _ (RP _ _) _ _; refine R_ret ?_ ?_) | refine Q_thenN ?_ | refine Q_thenR ?_ | fail)
    all_goals (try exact sd)
    all_goals (try refine F_done ?_)
    all_goals first | rfl | trace_state
  ·have hX := hA _ ((run_bad (k := 2) (by rw [r3]; exact he3) 5 (by omega)).trans r3)
   rw [if_pos he3] at hX
   rw [hX]
   have z3 : decide (e3 = 0) = false := decide_eq_false he3
   repeat' (first | (show Ev _ (.region _ _ true) _ _; refine D_startA [9, 49, 51, 54, 65, 68, 99998] mix ?_) | (show DrD _ _ _ [] _ _ _ _; refine D_nil ?_; try dsimp only) | (show DrD _ EA _ (_ :: _) _ _ _ _; first | refine D_runLA tok ?_ ?_ (h := by intro R; simp (maxSteps := 1000000) (disch := omega) only [go_sem, wrap_i64_id, fm, ff, fr, hq, d64, List.take_length, List.drop_zero, z3]; with_reducible exact rfl)) | (show DrD _ _ _ (_ :: _) _ _ _ _; first | refine D_con ?_ ?_ | refine D_store tok ?_ ?_ | refine D_hold tok ?_ ?_) | (show Ev _ _ _ _; first | refine Ev_seq ?_ | refine W_reg ?_ | refine W_ifT ?_ | refine W_ifF ?_ | refine Ev_skip ?_ | refine Ev_ret ?_) | (show EvD _ _ [] _ _ _; refine W_nil ?_) | (show EvD _ _ (_ :: _) _ _ _; first | refine W_run tok ?_ ?_ (by simp (maxSteps := 1000000) (disch := omega) only [go_sem, wrap_i64_id, fm, ff, fr, hq, d64, List.take_length, List.drop_zero, z3]; with_reducible exact rfl) | refine W_callee ?_) | (show EvC _ _ _ _ _ _ _ _ _; refine W_con ?_ ?_) | (show RetQ _ _ (RP _ _) _ _; refine R_ret ?_ ?_) | refine Q_thenN ?_ | refine Q_thenR ?_ | fail)
   all_goals (try exact sd)
   all_goals (try refine F_done ?_)
   all_goals first | rfl | trace_state
 ·have hX := hA _ ((run_bad (k := 1) (by rw [r2]; exact he2) 5 (by omega)).trans r2)
  rw [if_pos he2] at hX
  rw [hX]
  have z2 : decide (e2 = 0) = false := decide_eq_false he2
  repeat' (first | (show Ev _ (.region _ _ true) _ _; refine D_startA [9, 49, 51, 54, 65, 68, 99998] mix ?_) | (show DrD _ _ _ [] _ _ _ _; refine D_nil ?_; try dsimp only) | (show DrD _ EA _ (_ :: _) _ _ _ _; first | refine D_runLA tok ?_ ?_ (h := by intro R; simp (maxSteps := 1000000) (disch := omega) only [go_sem, wrap_i64_id, fm, ff, fr, hq, d64, List.take_length, List.drop_zero, z2]; with_reducible exact rfl)) | (show DrD _ _ _ (_ :: _) _ _ _ _; first | refine D_con ?_ ?_ | refine D_store tok ?_ ?_ | refine D_hold tok ?_ ?_) | (show Ev _ _ _ _; first | refine Ev_seq ?_ | refine W_reg ?_ | refine W_ifT ?_ | refine W_ifF ?_ | refine Ev_skip ?_ | refine Ev_ret ?_) | (show EvD _ _ [] _ _ _; refine W_nil ?_) | (show EvD _ _ (_ :: _) _ _ _; first | refine W_run tok ?_ ?_ (by simp (maxSteps := 1000000) (disch := omega) only [go_sem, wrap_i64_id, fm, ff, fr, hq, d64, List.take_length, List.drop_zero, z2]; with_reducible exact rfl) | refine W_callee ?_) | (show EvC _ _ _ _ _ _ _ _ _; refine W_con ?_ ?_) | (show RetQ _ _ (RP _ _) _ _; refine R_ret ?_ ?_) | refine Q_thenN ?_ | refine Q_thenR ?_ | fail)
  all_goals (try exact sd)
  all_goals (try refine F_done ?_)
  all_goals first | rfl | trace_state
theorem c_bursarref06_Append (S : List (List UInt8)) (W : List (Int × List UInt8)) (L : Int) (O : Bool) (f l a n : Int) (d : List UInt8) (hC : (S.length < 1099511627776 ∧ W.length < 274877906944 ∧ L < 9223372036854775808) ∧ d.length < 1099511627776) :
  Pure Try.prog n_bursarref06_Append [diskD S W L O, logD f l a n, .sl (bytes d)] (.tup [dkD (appR (S, W, L, O) f l a n d).1, lgD (appR (S, W, L, O) f l a n d).2.1, .int .i64 (appR (S, W, L, O) f l a n d).2.2]) := by
 have hz : szP S W := ⟨hC.1.1, by omega⟩
 by_cases hm : mayL S W L f l a n
 ·obtain ⟨h1, h2, h3, h4, h5, h6, h7, h8, h9⟩ := id hm
  have h1S := h1.1
  have fm : decide (mayL S W L f l a n) = true := decide_eq_true hm
  by_cases hf : d.length ≤ 6000
  ·have hmf : mayF n d := ⟨h8, h9, by omega⟩
   have ff : decide (mayF n d) = true := decide_eq_true hmf
   by_cases hr : roomL l a d.length
   ·by_cases h64 : 64 < (layF n d).length
    ·exact ap_long S W L O f l a n d hC hm hf hr h64
    ·exact ap_short S W L O f l a n d hC hm hf hr h64
   ·have fr : decide (roomL l a (d.length : Int)) = false := decide_eq_false hr
    have hE : appE (S, W, L, O) f l a n d = 9 := by unfold appE; rw [if_neg (by simp [hm, hmf]), if_pos hr]
    have hR : appR (S, W, L, O) f l a n d = (zeroK, zeroL, 9) := by unfold appR; rw [if_pos (by simp [hE]), hE]
    rw [hR]
    refine Pure.go tok (rs := [.cell 6 25, .cell 7 27, .tmp 8]) [diskD S W L O, logD f l a n, .sl (bytes d), .undef, .undef, .undef, .undef, .undef, .undef, .undef, .undef, .undef, .undef, .undef, .undef, .undef, .undef, .undef, .undef, .undef, .undef, .undef, .undef, .undef, .undef, .undef, .undef, .undef, .undef, .undef, .undef, .undef, .undef, .undef, .undef, .undef, .undef, .undef, .undef, .undef, .undef, .undef, .undef, .undef, .undef, .undef, .undef, .undef, .undef, .undef, .undef, .undef, .undef, .undef, .undef, .undef, .undef, .undef, .undef, .undef, .undef, .undef, .undef, .undef, .undef, .undef, .undef, .undef, .undef, .undef, .undef, .undef, .undef, .undef, .undef, .undef, .undef, .undef, .undef, .undef, .undef, .undef, .undef, .undef, .undef, .undef, .undef, .undef, .undef, .undef, .undef, .undef, .undef, .undef, .undef, .undef, .undef, .undef, .undef, .undef, .undef, .undef, .undef, .undef, .undef, .undef, .undef, .undef, .undef, .undef, .undef, .undef, .undef] Try.func11 (fun σ => ?_)
    repeat' (first | (show Ev _ _ _ _; first | refine Ev_seq ?_ | refine W_reg ?_ | refine W_ifT ?_ | refine W_ifF ?_ | refine Ev_skip ?_ | refine Ev_ret ?_) | (show EvD _ _ [] _ _ _; refine W_nil ?_) | (show EvD _ _ (_ :: _) _ _ _; first | refine W_run tok ?_ ?_ (by simp (maxSteps := 1000000) (disch := omega) only [go_sem, wrap_i64_id, fm, ff, fr]; with_reducible exact rfl) | refine W_callee ?_) | (show EvC _ _ _ _ _ _ _ _ _; refine W_con ?_ ?_) | (show RetQ _ _ (RP _ _) _ _; refine R_ret ?_ ?_) | (show FrzTo _ _ _ _; refine F_weak ?_) | refine Q_thenN ?_ | refine Q_thenR ?_ | fail)
    all_goals (try exact sd)
    all_goals (try refine F_done ?_)
    all_goals first | rfl | trace_state
  ·have hmf : ¬ mayF n d := fun h => by have := h.2.2; omega
   have ff : decide (mayF n d) = false := decide_eq_false hmf
   have hE : appE (S, W, L, O) f l a n d = 1 := by unfold appE; rw [if_pos (.inr hmf)]
   have hR : appR (S, W, L, O) f l a n d = (zeroK, zeroL, 1) := by unfold appR; rw [if_pos (by simp [hE]), hE]
   rw [hR]
   refine Pure.go tok (rs := [.cell 6 25, .cell 7 27, .tmp 8]) [diskD S W L O, logD f l a n, .sl (bytes d), .undef, .undef, .undef, .undef, .undef, .undef, .undef, .undef, .undef, .undef, .undef, .undef, .undef, .undef, .undef, .undef, .undef, .undef, .undef, .undef, .undef, .undef, .undef, .undef, .undef, .undef, .undef, .undef, .undef, .undef, .undef, .undef, .undef, .undef, .undef, .undef, .undef, .undef, .undef, .undef, .undef, .undef, .undef, .undef, .undef, .undef, .undef, .undef, .undef, .undef, .undef, .undef, .undef, .undef, .undef, .undef, .undef, .undef, .undef, .undef, .undef, .undef, .undef, .undef, .undef, .undef, .undef, .undef, .undef, .undef, .undef, .undef, .undef, .undef, .undef, .undef, .undef, .undef, .undef, .undef, .undef, .undef, .undef, .undef, .undef, .undef, .undef, .undef, .undef, .undef, .undef, .undef, .undef, .undef, .undef, .undef, .undef, .undef, .undef, .undef, .undef, .undef, .undef, .undef, .undef, .undef, .undef, .undef, .undef, .undef] Try.func11 (fun σ => ?_)
   repeat' (first | (show Ev _ _ _ _; first | refine Ev_seq ?_ | refine W_reg ?_ | refine W_ifT ?_ | refine Ev_ret ?_) | (show EvD _ _ [] _ _ _; refine W_nil ?_) | (show EvD _ _ (_ :: _) _ _ _; first | refine W_run tok ?_ ?_ (by simp (maxSteps := 1000000) (disch := omega) only [go_sem, wrap_i64_id, fm, ff]; with_reducible exact rfl) | refine W_callee ?_) | (show EvC _ _ _ _ _ _ _ _ _; refine W_con ?_ ?_) | (show RetQ _ _ (RP _ _) _ _; refine R_ret ?_ ?_) | (show FrzTo _ _ _ _; refine F_weak ?_) | refine Q_thenN ?_ | refine Q_thenR ?_ | fail)
   all_goals (try exact sd)
   all_goals (try refine F_done ?_)
   all_goals first | rfl | trace_state
 ·have fm : decide (mayL S W L f l a n) = false := decide_eq_false hm
  have hE : appE (S, W, L, O) f l a n d = 1 := by unfold appE; rw [if_pos (.inl hm)]
  have hR : appR (S, W, L, O) f l a n d = (zeroK, zeroL, 1) := by unfold appR; rw [if_pos (by simp [hE]), hE]
  rw [hR]
  refine Pure.go tok (rs := [.cell 6 25, .cell 7 27, .tmp 8]) [diskD S W L O, logD f l a n, .sl (bytes d), .undef, .undef, .undef, .undef, .undef, .undef, .undef, .undef, .undef, .undef, .undef, .undef, .undef, .undef, .undef, .undef, .undef, .undef, .undef, .undef, .undef, .undef, .undef, .undef, .undef, .undef, .undef, .undef, .undef, .undef, .undef, .undef, .undef, .undef, .undef, .undef, .undef, .undef, .undef, .undef, .undef, .undef, .undef, .undef, .undef, .undef, .undef, .undef, .undef, .undef, .undef, .undef, .undef, .undef, .undef, .undef, .undef, .undef, .undef, .undef, .undef, .undef, .undef, .undef, .undef, .undef, .undef, .undef, .undef, .undef, .undef, .undef, .undef, .undef, .undef, .undef, .undef, .undef, .undef, .undef, .undef, .undef, .undef, .undef, .undef, .undef, .undef, .undef, .undef, .undef, .undef, .undef, .undef, .undef, .undef, .undef, .undef, .undef, .undef, .undef, .undef, .undef, .undef, .undef, .undef, .undef, .undef, .undef, .undef, .undef] Try.func11 (fun σ => ?_)
  repeat' (first | (show Ev _ _ _ _; first | refine Ev_seq ?_ | refine W_reg ?_ | refine W_ifT ?_ | refine Ev_ret ?_) | (show EvD _ _ [] _ _ _; refine W_nil ?_) | (show EvD _ _ (_ :: _) _ _ _; first | refine W_run tok ?_ ?_ (by simp (maxSteps := 1000000) (disch := omega) only [go_sem, wrap_i64_id, fm]; with_reducible exact rfl) | refine W_callee ?_) | (show EvC _ _ _ _ _ _ _ _ _; refine W_con ?_ ?_) | (show RetQ _ _ (RP _ _) _ _; refine R_ret ?_ ?_) | (show FrzTo _ _ _ _; refine F_weak ?_) | refine Q_thenN ?_ | refine Q_thenR ?_ | fail)
  all_goals (try exact sd)
  all_goals (try refine F_done ?_)
  all_goals first | rfl | trace_state
instance i_bursarref06_Append (S : List (List UInt8)) (W : List (Int × List UInt8)) (L : Int) (O : Bool) (f l a n : Int) (d : List UInt8) : Con Try.prog 11 [diskD S W L O, logD f l a n, .sl (bytes d)] ((S.length < 1099511627776 ∧ W.length < 274877906944 ∧ L < 9223372036854775808) ∧ d.length < 1099511627776) (.tup [dkD (appR (S, W, L, O) f l a n d).1, lgD (appR (S, W, L, O) f l a n d).2.1, .int .i64 (appR (S, W, L, O) f l a n d).2.2]) := ⟨c_bursarref06_Append S W L O f l a n d⟩
end Go.Val.Ytlfnmgmbmgacgaa
