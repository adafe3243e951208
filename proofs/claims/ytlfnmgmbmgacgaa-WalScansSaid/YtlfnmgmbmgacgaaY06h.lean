/- Chapter 06: the statement of what a log has, walked. -/
import Derived.Test.YtlfnmgmbmgacgaaY06g
import Derived.Test.YtlfnmgmbmgacgaaY06e
namespace Go.Val.Ytlfnmgmbmgacgaa
open Go Go.Val Go.Proofs Go.Proofs.Ytlfnmgmbmgacgaa
attribute [local irreducible] Ev EvD EvC thenQ blockQ RoundG RetQ
set_option maxRecDepth 100000
set_option maxHeartbeats 4000000
set_option linter.unusedSimpArgs false
set_option linter.unusedVariables false
theorem scS_len (S : List (List UInt8)) (W : List (Int × List UInt8)) (L : Int) (O : Bool) (f l a n : Int) : ∀ i, (scS S W L O f l a n i).1.length = i
 | 0 => rfl
 | i + 1 => by
  have ih := scS_len S W L O f l a n i
  rw [scS]
  simp [ih]
theorem scan_len (S : List (List UInt8)) (W : List (Int × List UInt8)) (L : Int) (O : Bool) (f l a n : Int) : (scanR S W L O f l a n).1.length ≤ S.length + 1 := by
 have h : scN S W L O f l a n ≤ S.length + 1 := firstN_le _ _
 unfold scanR
 split
 ·simp
 ·split
  ·simp
  ·simp only [scS_len]; exact h
attribute [local irreducible] nought64
theorem c_bursarlaw06_WalScans (S : List (List UInt8)) (W : List (Int × List UInt8)) (L : Int) (O : Bool) (f l a n : Int) (d : List UInt8) (m : Int) (hC : lenP6 S W ∧ L < 9223372036854775808 ∧ l < 9223372036854775808) : Pure Try.prog n_bursarlaw06_WalScans [.agg [.sl (secs S), .sl (pends W), .int .i64 L, .bool O, .int .i64 f, .int .i64 l, .int .i64 a, .int .i64 n, .sl (bytes d), .int .i64 m]] (.bool true) := by
 refine Pure.go tok (rs := [.tmp 2]) [.agg [.sl (secs S), .sl (pends W), .int .i64 L, .bool O, .int .i64 f, .int .i64 l, .int .i64 a, .int .i64 n, .sl (bytes d), .int .i64 m], .undef, .undef, .undef, .undef, .undef, .undef, .undef, .undef, .undef, .undef, .undef, .undef, .undef, .undef, .undef, .undef, .undef, .undef, .undef, .undef, .undef, .undef, .undef, .undef, .undef, .undef, .undef, .undef, .undef, .undef, .undef, .undef, .undef, .undef, .undef, .undef, .undef, .undef, .undef, .undef, .undef, .undef, .undef, .undef, .undef, .undef, .undef, .undef, .undef, .undef, .undef, .undef, .undef, .undef, .undef, .undef, .undef, .undef, .undef, .undef, .undef, .undef, .undef, .undef, .undef, .undef, .undef, .undef, .undef, .undef, .undef, .undef, .undef, .undef, .undef, .undef, .undef, .undef, .undef, .undef, .undef, .undef, .undef, .undef, .undef, .undef, .undef, .undef, .undef, .undef, .undef, .undef, .undef, .undef, .undef, .undef, .undef, .undef, .undef, .undef, .undef] Try.func5 (fun σ => ?_)
 obtain ⟨hlen, hL, hl⟩ := hC
 have iF := i_bursarlaw04_Few S W L O
 obtain ⟨hz1, hz2⟩ := few6_sz S W
 have hln := few6_len hlen
 generalize fewS S = S' at iF hz1 hln
 generalize fewW W = W' at iF hz2 hln
 have hz : szP S' W' := ⟨by omega, by omega⟩
 have hok : dkOK 40 (S', W', L, O) := ⟨by simp only; omega, hz2, hL⟩
 have iA : Con Try.prog 21 [diskD S' W' L O, logD f l a n] True (.tup [.sl (pends (scanR S' W' L O f l a n).1), lgD (scanR S' W' L O f l a n).2.1, .int .i64 (scanR S' W' L O f l a n).2.2]) := ⟨fun _ => c_wal_Scan S' W' L O f l a n hz⟩
 have iB : Con Try.prog 23 [diskD S' W' L O, logD f l a n] True (.tup [.sl (pends (scanR S' W' L O f l a n).1), lgD (scanR S' W' L O f l a n).2.1, .int .i64 (scanR S' W' L O f l a n).2.2]) := ⟨fun _ => c_bursarref06_Scan S' W' L O f l a n ⟨hz, hl⟩⟩
 have hsl := scan_len S' W' L O f l a n
 generalize scanR S' W' L O f l a n = R at iA iB hsl
 obtain ⟨A, ⟨f2, l2, a2, n2⟩, e⟩ := R
 have hsl : A.length ≤ S'.length + 1 := hsl
 have iA : Con Try.prog 21 [diskD S' W' L O, logD f l a n] True (.tup [.sl (pends A), logD f2 l2 a2 n2, .int .i64 e]) := iA
 have iB : Con Try.prog 23 [diskD S' W' L O, logD f l a n] True (.tup [.sl (pends A), logD f2 l2 a2 n2, .int .i64 e]) := iB
 have i1 : Con Try.prog 22 [.sl (pends A), .sl (pends A)] True (.bool true) := ⟨fun _ => by
  have h := c_bursarref06_Same A A ⟨by omega, by omega⟩
  rwa [decide_eq_true rfl] at h⟩
 have iK : Con Try.prog 24 [diskD S' W' L O, logD f l a n] True (.tup [dkD (clrR (S', W', L, O) f l a n).1, .int .i64 (clrR (S', W', L, O) f l a n).2]) := ⟨fun _ => c_wal_Clear S' W' L O f l a n ⟨by omega, by omega, hL⟩⟩
 have rf : decide (f2 = f2) = true := decide_eq_true rfl
 have rl : decide (l2 = l2) = true := decide_eq_true rfl
 have ra : decide (a2 = a2) = true := decide_eq_true rfl
 have rn : decide (n2 = n2) = true := decide_eq_true rfl
 have re : decide (e = e) = true := decide_eq_true rfl
 by_cases hm : mayL S' W' L f l a n
 ·have i4 : Con Try.prog 14 [diskD S' W' L O, logD f l a n] True (.bool true) := ⟨fun _ => by
   have h := c_bursarref06_May S' W' L O f l a n hz
   rwa [decide_eq_true hm] at h⟩
  obtain ⟨h1, h2, h3, h4, h5, h6, h7, h8, h9⟩ := id hm
  have h1S := h1.1
  have hz64 := nought64_len
  have hcl : clrR (S', W', L, O) f l a n = runF (clrF (f + a)) (S', W', L, O) 2 := by unfold clrR; rw [if_neg (by simp [hm])]
  have hF0 : ∀ s, clrF (f + a) 0 s = wrF (f + a) nought64 s := fun s => rfl
  have hF1 : ∀ s, clrF (f + a) 1 s = flF s := fun s => rfl
  have o1 := wr_ok (at_ := f + a) (b := nought64) hok
  have w1 := con_wrR (at_ := f + a) (b := nought64) hok (by omega) (by omega) (by omega)
  generalize hw1 : wrF (f + a) nought64 (S', W', L, O) = q1 at o1 w1
  obtain ⟨⟨S1, W1, L1, O1⟩, e1⟩ := q1
  have r1 : runF (clrF (f + a)) (S', W', L, O) 1 = ((S1, W1, L1, O1), e1) := run_one (runG _ _) rfl (by rw [hF0]; exact hw1)
  have hok1 : dkOK (40 + 200) (S1, W1, L1, O1) := o1.mono (by omega)
  have w1 : Con Try.prog 25 [diskD S' W' L O, .int .i64 (f + a), .str nought64] True (.tup [diskD S1 W1 L1 O1, .int .i64 e1]) := w1
  have d4 : decide (mayL S' W' L f l a n) = true := decide_eq_true hm
  by_cases he1 : e1 = 0
  ·subst he1
   have o2 := fl_ok hok1
   have w2 := con_flR hok1 (by omega)
   generalize hw2 : flF (S1, W1, L1, O1) = q2 at o2 w2
   obtain ⟨⟨S2, W2, L2, O2⟩, e2⟩ := q2
   have r2 : runF (clrF (f + a)) (S', W', L, O) 2 = ((S2, W2, L2, O2), e2) := run_one r1 rfl (by rw [hF1]; exact hw2)
   rw [hcl, r2] at iK
   have iK : Con Try.prog 24 [diskD S' W' L O, logD f l a n] True (.tup [diskD S2 W2 L2 O2, .int .i64 e2]) := iK
   have w2 : Con Try.prog 26 [diskD S1 W1 L1 O1] True (.tup [diskD S2 W2 L2 O2, .int .i64 e2]) := w2
   have i7 : Con Try.prog 12 [diskD S2 W2 L2 O2, diskD S2 W2 L2 O2] True (.bool true) := ⟨fun _ => by
    have hh := dkOK.sz (s := (S2, W2, L2, O2)) o2 (by omega)
    have h := c_bursarref04_Same S2 W2 L2 O2 S2 W2 L2 O2 ⟨hh, hh⟩
    rwa [decide_eq_true (by exact ⟨rfl, rfl, rfl, rfl⟩)] at h⟩
   have re2 : decide (e2 = e2) = true := decide_eq_true rfl
   repeat' (first | (show Ev _ (.region _ _ true) _ _; refine D_startP [9, 49, 51, 54, 65, 68, 99999] mix ?_) | (show DrD _ (EP _) _ (_ :: _) _ _ _ _; first | refine D_runLP tok ?_ ?_ (h := by intro R r M; simp (maxSteps := 1000000) (disch := omega) only [go_sem, wrap_i64_id, rf, rl, ra, rn, re, re2, nrep, nrep2]; with_reducible exact rfl)) | (show DrD _ _ _ [] _ _ _ _; refine D_nil ?_; try dsimp only) | (show DrD _ _ _ (_ :: _) _ _ _ _; first | refine D_con ?_ ?_ | refine D_store tok ?_ ?_ | refine D_eff tok ?_ ?_) | (show Ev _ _ _ _; first | refine Ev_seq ?_ | refine W_reg ?_ | refine W_ifT ?_ | refine W_ifF ?_ | refine Ev_skip ?_ | refine Ev_ret ?_) | (show EvD _ _ [] _ _ _; refine W_nil ?_) | (show EvD _ _ (_ :: _) _ _ _; first | refine W_run tok ?_ ?_ (by simp (maxSteps := 1000000) (disch := omega) only [go_sem, wrap_i64_id, rf, rl, ra, rn, re, re2, nrep, nrep2]; with_reducible exact rfl) | refine W_callee ?_) | (show EvC _ _ _ _ _ _ _ _ _; refine W_con ?_ ?_) | (show RetQ _ _ (RP _ _) _ _; refine R_ret ?_ ?_) | refine Q_thenN ?_ | fail)
   all_goals (try exact sd)
   all_goals (try refine F_done ?_)
   all_goals first | rfl | exact hz64 | trace_state
  ·have r2 : runF (clrF (f + a)) (S', W', L, O) 2 = ((S1, W1, L1, O1), e1) := (run_bad (k := 0) (by rw [r1]; exact he1) 2 (by omega)).trans r1
   rw [hcl, r2] at iK
   have iK : Con Try.prog 24 [diskD S' W' L O, logD f l a n] True (.tup [diskD S1 W1 L1 O1, .int .i64 e1]) := iK
   have i7 : Con Try.prog 12 [diskD S1 W1 L1 O1, diskD S1 W1 L1 O1] True (.bool true) := ⟨fun _ => by
    have hh := dkOK.sz (s := (S1, W1, L1, O1)) hok1 (by omega)
    have h := c_bursarref04_Same S1 W1 L1 O1 S1 W1 L1 O1 ⟨hh, hh⟩
    rwa [decide_eq_true (by exact ⟨rfl, rfl, rfl, rfl⟩)] at h⟩
   have z1 : decide (e1 = 0) = false := decide_eq_false he1
   have re2 : decide (e1 = e1) = true := decide_eq_true rfl
   repeat' (first | (show Ev _ (.region _ _ true) _ _; refine D_startP [9, 49, 51, 54, 65, 68, 99999] mix ?_) | (show DrD _ (EP _) _ (_ :: _) _ _ _ _; first | refine D_runLP tok ?_ ?_ (h := by intro R r M; simp (maxSteps := 1000000) (disch := omega) only [go_sem, wrap_i64_id, rf, rl, ra, rn, re, z1, re2, nrep, nrep2]; with_reducible exact rfl)) | (show DrD _ _ _ [] _ _ _ _; refine D_nil ?_; try dsimp only) | (show DrD _ _ _ (_ :: _) _ _ _ _; first | refine D_con ?_ ?_ | refine D_store tok ?_ ?_ | refine D_eff tok ?_ ?_) | (show Ev _ _ _ _; first | refine Ev_seq ?_ | refine W_reg ?_ | refine W_ifF ?_ | refine Ev_skip ?_ | refine Ev_ret ?_) | (show EvD _ _ [] _ _ _; refine W_nil ?_) | (show EvD _ _ (_ :: _) _ _ _; first | refine W_run tok ?_ ?_ (by simp (maxSteps := 1000000) (disch := omega) only [go_sem, wrap_i64_id, rf, rl, ra, rn, re, z1, re2, nrep, nrep2]; with_reducible exact rfl) | refine W_callee ?_) | (show EvC _ _ _ _ _ _ _ _ _; refine W_con ?_ ?_) | (show RetQ _ _ (RP _ _) _ _; refine R_ret ?_ ?_) | refine Q_thenN ?_ | fail)
   all_goals (try exact sd)
   all_goals (try refine F_done ?_)
   all_goals first | rfl | exact hz64 | trace_state
 ·have i4 : Con Try.prog 14 [diskD S' W' L O, logD f l a n] True (.bool false) := ⟨fun _ => by
   have h := c_bursarref06_May S' W' L O f l a n hz
   rwa [decide_eq_false hm] at h⟩
  have hcl : clrR (S', W', L, O) f l a n = (zeroK, 1) := by unfold clrR; rw [if_pos (by simpa using hm)]
  rw [hcl] at iK
  have iK : Con Try.prog 24 [diskD S' W' L O, logD f l a n] True (.tup [.agg [.sl [], .sl [], .int .i64 0, .bool false], .int .i64 1]) := iK
  repeat' (first | (show Ev _ _ _ _; first | refine Ev_seq ?_ | refine W_reg ?_ | refine W_ifT ?_ | refine W_ifF ?_ | refine Ev_skip ?_ | refine Ev_ret ?_) | (show EvD _ _ [] _ _ _; refine W_nil ?_) | (show EvD _ _ (_ :: _) _ _ _; first | refine W_run tok ?_ ?_ (by simp (maxSteps := 1000000) (disch := omega) only [go_sem, wrap_i64_id, rf, rl, ra, rn, re]; with_reducible exact rfl) | refine W_callee ?_) | (show EvC _ _ _ _ _ _ _ _ _; refine W_con ?_ ?_) | (show RetQ _ _ (RP _ _) _ _; refine R_ret ?_ ?_) | refine Q_thenN ?_ | refine Q_thenR ?_ | fail)
  all_goals (try exact sd)
  all_goals (try refine F_done ?_)
  all_goals first | rfl | trace_state
instance i_bursarlaw06_WalScans (S : List (List UInt8)) (W : List (Int × List UInt8)) (L : Int) (O : Bool) (f l a n : Int) (d : List UInt8) (m : Int) : Con Try.prog 5 [.agg [.sl (secs S), .sl (pends W), .int .i64 L, .bool O, .int .i64 f, .int .i64 l, .int .i64 a, .int .i64 n, .sl (bytes d), .int .i64 m]] (lenP6 S W ∧ L < 9223372036854775808 ∧ l < 9223372036854775808) (.bool true) := ⟨c_bursarlaw06_WalScans S  W  L  O  f l a n  d  m ⟩
end Go.Val.Ytlfnmgmbmgacgaa
