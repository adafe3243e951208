/- Chapter 06: the statement of appending, walked. -/
import Derived.Test.YtlfnmgmbmgacgaaY06d
import Derived.Test.YtlfnmgmbmgacgaaX06z
namespace Go.Val.Ytlfnmgmbmgacgaa
open Go Go.Val Go.Proofs Go.Proofs.Ytlfnmgmbmgacgaa
attribute [local irreducible] Ev EvD EvC thenQ blockQ RoundG RetQ
set_option maxRecDepth 100000
set_option maxHeartbeats 4000000
set_option linter.unusedSimpArgs false
set_option linter.unusedVariables false
abbrev lenP6 (S : List (List UInt8)) (W : List (Int × List UInt8)) : Prop := (∀ b ∈ S, b.length ≤ 140737488355328) ∧ ∀ p ∈ W, p.2.length ≤ 140737488355328
theorem few6_sz (S : List (List UInt8)) (W : List (Int × List UInt8)) : (fewS S).length ≤ 4097 ∧ (fewW W).length ≤ 40 := by
 unfold fewS fewW
 split <;> simp only [List.length_take] <;> omega
theorem few6_len {S : List (List UInt8)} {W : List (Int × List UInt8)} (h : lenP6 S W) : lenP6 (fewS S) (fewW W) := by
 refine ⟨fun b hb => ?_, fun p hp => h.2 p (List.mem_of_mem_take hp)⟩
 unfold fewS at hb
 split at hb <;> exact h.1 b (List.mem_of_mem_take hb)
theorem run_app_ok {m : Nat} {at_ q : Int} {B : List UInt8} (hB : B.length ≤ 7000) {s : Dk} (hs : dkOK m s) : ∀ k, dkOK (m + 200 * k) (runF (appF at_ q B) s k).1
 | 0 => hs.mono (by omega)
 | k + 1 => by
  have ih := run_app_ok hB hs (at_ := at_) (q := q) k
  have h1 : (B.drop 64).length ≤ 7000 := by rw [List.length_drop]; omega
  have h2 : (B.take 64).length ≤ 7000 := by rw [List.length_take]; omega
  have h3 : nought64.length = 64 := nought64_len
  rw [runF]
  split
  ·exact ih.mono (by omega)
  ·rcases k with _ | _ | _ | _ | k
   ·exact (wr_ok ih).mono (by omega)
   ·exact (wr_ok ih).mono (by omega)
   ·exact (fl_ok ih).mono (by omega)
   ·exact (wr_ok ih).mono (by omega)
   ·exact (fl_ok ih).mono (by omega)
theorem appR_ok {m : Nat} {s : Dk} (hs : dkOK m s) (f l a n : Int) {d : List UInt8} (hd : d.length ≤ 6001) : dkOK (m + 1000) (appR s f l a n d).1 := by
 have hll := layF_len n d
 unfold appR
 split
 ·exact ⟨by simp [zeroK], by simp [zeroK], by simp [zeroK]⟩
 ·split
  ·exact (run_app_ok (by omega) hs 5).mono (by omega)
  ·exact (run_app_ok (by omega) hs 5).mono (by omega)
theorem c_bursarlaw06_WalAppends (S : List (List UInt8)) (W : List (Int × List UInt8)) (L : Int) (O : Bool) (f l a n : Int) (d : List UInt8) (m : Int) (hC : lenP6 S W ∧ L < 9223372036854775808 ∧ l < 9223372036854775808) : Pure Try.prog n_bursarlaw06_WalAppends [.agg [.sl (secs S), .sl (pends W), .int .i64 L, .bool O, .int .i64 f, .int .i64 l, .int .i64 a, .int .i64 n, .sl (bytes d), .int .i64 m]] (.bool true) := by
 refine Pure.go tok (rs := [.tmp 2]) [.agg [.sl (secs S), .sl (pends W), .int .i64 L, .bool O, .int .i64 f, .int .i64 l, .int .i64 a, .int .i64 n, .sl (bytes d), .int .i64 m], .undef, .undef, .undef, .undef, .undef, .undef, .undef, .undef, .undef, .undef, .undef, .undef, .undef, .undef, .undef, .undef, .undef, .undef, .undef, .undef, .undef, .undef, .undef, .undef, .undef, .undef, .undef, .undef, .undef, .undef, .undef, .undef, .undef, .undef, .undef, .undef, .undef, .undef, .undef, .undef, .undef, .undef, .undef, .undef, .undef, .undef, .undef, .undef, .undef, .undef, .undef, .undef, .undef, .undef, .undef, .undef, .undef, .undef, .undef, .undef, .undef, .undef, .undef, .undef, .undef, .undef, .undef, .undef, .undef, .undef, .undef, .undef, .undef, .undef, .undef, .undef, .undef, .undef, .undef, .undef, .undef, .undef] Try.func3 (fun σ => ?_)
 obtain ⟨hlen, hL, hl⟩ := hC
 have iF := i_bursarlaw04_Few S W L O
 obtain ⟨hz1, hz2⟩ := few6_sz S W
 have hln := few6_len hlen
 generalize fewS S = S' at iF hz1 hln
 generalize fewW W = W' at iF hz2 hln
 have iD := i_bursarlaw06_few d
 have hd := few6_le d
 generalize few6 d = d' at iD hd
 have hz : szP S' W' := ⟨by omega, by omega⟩
 have iC : Con Try.prog 9 [diskD S' W' L O] True (diskD S' W' L O) := ⟨fun _ => c_bursarref04_Copy S' W' L O ⟨hz, hln⟩⟩
 have hok : dkOK 40 (S', W', L, O) := ⟨by simp only; omega, hz2, hL⟩
 have hR := appR_ok hok f l a n hd
 have iA : Con Try.prog 10 [diskD S' W' L O, logD f l a n, .sl (bytes d')] True (.tup [dkD (appR (S', W', L, O) f l a n d').1, lgD (appR (S', W', L, O) f l a n d').2.1, .int .i64 (appR (S', W', L, O) f l a n d').2.2]) := ⟨fun _ => c_wal_Append S' W' L O f l a n d' ⟨⟨by omega, by omega, hL⟩, by omega⟩⟩
 have iB : Con Try.prog 11 [diskD S' W' L O, logD f l a n, .sl (bytes d')] True (.tup [dkD (appR (S', W', L, O) f l a n d').1, lgD (appR (S', W', L, O) f l a n d').2.1, .int .i64 (appR (S', W', L, O) f l a n d').2.2]) := ⟨fun _ => c_bursarref06_Append S' W' L O f l a n d' ⟨⟨by omega, by omega, hL⟩, by omega⟩⟩
 generalize appR (S', W', L, O) f l a n d' = R at iA iB hR
 obtain ⟨⟨S2, W2, L2, O2⟩, ⟨f2, l2, a2, n2⟩, e⟩ := R
 have iA : Con Try.prog 10 [diskD S' W' L O, logD f l a n, .sl (bytes d')] True (.tup [diskD S2 W2 L2 O2, logD f2 l2 a2 n2, .int .i64 e]) := iA
 have iB : Con Try.prog 11 [diskD S' W' L O, logD f l a n, .sl (bytes d')] True (.tup [diskD S2 W2 L2 O2, logD f2 l2 a2 n2, .int .i64 e]) := iB
 have i1 : Con Try.prog 12 [diskD S2 W2 L2 O2, diskD S2 W2 L2 O2] True (.bool true) := ⟨fun _ => by
  have hh := hR.sz (by omega)
  have h := c_bursarref04_Same S2 W2 L2 O2 S2 W2 L2 O2 ⟨hh, hh⟩
  rwa [decide_eq_true (by exact ⟨rfl, rfl, rfl, rfl⟩)] at h⟩
 have i2 : Con Try.prog 12 [diskD S' W' L O, diskD S' W' L O] True (.bool true) := ⟨fun _ => by
  have h := c_bursarref04_Same S' W' L O S' W' L O ⟨hz, hz⟩
  rwa [decide_eq_true (by exact ⟨rfl, rfl, rfl, rfl⟩)] at h⟩
 have i3 : Con Try.prog 13 [diskD S' W' L O, logD f l a n] True (.bool (decide (mayL S' W' L f l a n))) := ⟨fun _ => c_wal_May S' W' L O f l a n hz⟩
 have i4 : Con Try.prog 14 [diskD S' W' L O, logD f l a n] True (.bool (decide (mayL S' W' L f l a n))) := ⟨fun _ => c_bursarref06_May S' W' L O f l a n hz⟩
 have i5 : Con Try.prog 15 [logD f l a n, .int .i64 m] True (.bool (decide (roomL l a m))) := ⟨fun _ => c_wal_Room f l a n m hl⟩
 have i6 : Con Try.prog 16 [logD f l a n, .int .i64 m] True (.bool (decide (roomL l a m))) := ⟨fun _ => c_bursarref06_Room f l a n m hl⟩
 generalize decide (mayL S' W' L f l a n) = bm at i3 i4
 generalize decide (roomL l a m) = br at i5 i6
 have rf : decide (f2 = f2) = true := decide_eq_true rfl
 have rl : decide (l2 = l2) = true := decide_eq_true rfl
 have ra : decide (a2 = a2) = true := decide_eq_true rfl
 have rn : decide (n2 = n2) = true := decide_eq_true rfl
 have re : decide (e = e) = true := decide_eq_true rfl
 have rb : (bm == bm) = true := by simp
 have rr : (br == br) = true := by simp
 repeat' (first | (show Ev _ (.region _ _ true) _ _; refine D_start [9, 49, 51, 54, 65, 68] mix ?_) | (show DrD _ _ _ [] _ _ _ _; refine D_nil ?_; try dsimp only) | (show DrD _ (EB _ _) _ (_ :: _) _ _ _ _; first | refine D_runL tok ?_ ?_ (h := by intro R; simp (maxSteps := 1000000) (disch := omega) only [go_sem, wrap_i64_id, rf, rl, ra, rn, re, rb, rr]; with_reducible exact rfl)) | (show DrD _ _ _ (_ :: _) _ _ _ _; refine D_con ?_ ?_) | (show Ev _ _ _ _; first | refine Ev_seq ?_ | refine W_reg ?_ | refine Ev_ret ?_) | (show EvD _ _ [] _ _ _; refine W_nil ?_) | (show EvD _ _ (_ :: _) _ _ _; first | refine W_run tok ?_ ?_ (by simp (maxSteps := 1000000) (disch := omega) only [go_sem, wrap_i64_id, rf, rl, ra, rn, re, rb, rr]; with_reducible exact rfl) | refine W_callee ?_) | (show EvC _ _ _ _ _ _ _ _ _; refine W_con ?_ ?_) | (show RetQ _ _ (RP _ _) _ _; refine R_ret ?_ ?_) | refine Q_thenN ?_ | fail)
 all_goals (try exact sd)
 all_goals (try refine F_done ?_)
 all_goals first | rfl | trace_state
instance i_bursarlaw06_WalAppends (S : List (List UInt8)) (W : List (Int × List UInt8)) (L : Int) (O : Bool) (f l a n : Int) (d : List UInt8) (m : Int) : Con Try.prog 3 [.agg [.sl (secs S), .sl (pends W), .int .i64 L, .bool O, .int .i64 f, .int .i64 l, .int .i64 a, .int .i64 n, .sl (bytes d), .int .i64 m]] (lenP6 S W ∧ L < 9223372036854775808 ∧ l < 9223372036854775808) (.bool true) := ⟨c_bursarlaw06_WalAppends S  W  L  O  f l a n  d  m ⟩
end Go.Val.Ytlfnmgmbmgacgaa
