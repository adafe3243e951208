/- Chapter 06: all that a log has by the document, walked. -/
import Derived.Test.YtlfnmgmbmgacgaaY06f
namespace Go.Val.Ytlfnmgmbmgacgaa
open Go Go.Val Go.Proofs Go.Proofs.Ytlfnmgmbmgacgaa
attribute [local irreducible] Ev EvD EvC thenQ blockQ RoundG RetQ
set_option maxRecDepth 100000
set_option maxHeartbeats 4000000
set_option linter.unusedSimpArgs false
set_option linter.unusedVariables false
theorem sc_lt {S : List (List UInt8)} {W : List (Int × List UInt8)} {L : Int} {f l a n : Int} (hm : mayP S W L) (hf : 0 ≤ f) (ha : 0 ≤ a) (hal : a < l) (hfl : f + l ≤ S.length) : ∀ i, (∀ j, j < i → stopS S W L false f l a n j = false) →
  0 ≤ (scS S W L false f l a n i).2.1 ∧ (scS S W L false f l a n i).2.1 < l
 | 0, _ => ⟨ha, hal⟩
 | i + 1, h => by
  obtain ⟨h1, h2⟩ := sc_lt hm hf ha hal hfl i (fun j hj => h j (by omega))
  obtain ⟨k1, k2, k3⟩ := stop_no (h i (by omega))
  obtain ⟨x1, x2⟩ := next_eq (n := (scS S W L false f l a n i).2.2) hm hf h1 h2 hfl
  by_cases hg : goodR S W f l (scS S W L false f l a n i).2.1 (scS S W L false f l a n i).2.2
  ·obtain ⟨y1, y2, y3, y4⟩ := x1 hg
   have hs : (scS S W L false f l a n (i + 1)).2.1 = (scS S W L false f l a n i).2.1 + (nextR S W L false f l (scS S W L false f l a n i).2.1 (scS S W L false f l a n i).2.2).2.1 := rfl
   rw [hs, y1]
   simp only; omega
  ·rw [x2 hg] at k3
   exact absurd rfl k3
theorem readS_drop {S : List (List UInt8)} {W : List (Int × List UInt8)} {L : Int} (hm : mayP S W L) {F M : Nat} {t : Int} (h0 : 0 ≤ t) (h1 : t < M) (hS : F + M ≤ S.length) : (readS S W F M).drop (64 * t.toNat) = restS S W F M t := by
 have hs := readS_split S W F t.toNat (M - t.toNat)
 rw [show t.toNat + (M - t.toNat) = M by omega] at hs
 have hl := readS_len hm F t.toNat (by omega)
 rw [hs, List.drop_append_of_le_length (by omega), List.drop_of_length_le (by omega), List.nil_append]
 unfold restS
 rw [show ((F : Int) + t).toNat = F + t.toNat by omega, show ((M : Int) - t).toNat = M - t.toNat by omega]
theorem c_bursarref06_Scan (S : List (List UInt8)) (W : List (Int × List UInt8)) (L : Int) (O : Bool) (f l a n : Int) (hC : szP S W ∧ l < 9223372036854775808) : Pure Try.prog n_bursarref06_Scan [diskD S W L O, logD f l a n] (.tup [.sl (pends (scanR S W L O f l a n).1), lgD (scanR S W L O f l a n).2.1, .int .i64 (scanR S W L O f l a n).2.2]) := by
 refine Pure.go tok (rs := [.tmp 4, .cell 5 27, .tmp 6]) [diskD S W L O, logD f l a n, .undef, .undef, .undef, .undef, .undef, .undef, .undef, .undef, .undef, .undef, .undef, .undef, .undef, .undef, .undef, .undef, .undef, .undef, .undef, .undef, .undef, .undef, .undef, .undef, .undef, .undef, .undef, .undef, .undef, .undef, .undef, .undef, .undef, .undef, .undef, .undef, .undef, .undef, .undef, .undef, .undef, .undef, .undef, .undef, .undef, .undef, .undef, .undef, .undef, .undef, .undef, .undef, .undef, .undef, .undef, .undef, .undef, .undef, .undef, .undef, .undef, .undef, .undef, .undef, .undef, .undef, .undef, .undef, .undef, .undef, .undef, .undef, .undef, .undef, .undef, .undef, .undef, .undef, .undef, .undef, .undef, .undef, .undef, .undef, .undef, .undef] Try.func23 (fun σ => ?_)
 obtain ⟨hz, hl63⟩ := hC
 by_cases hm : mayL S W L f l a n
 ·obtain ⟨h1, h2, h3, h4, h5, h6, h7, h8, h9⟩ := id hm
  have h1S := h1.1
  have fm : decide (mayL S W L f l a n) = true := decide_eq_true hm
  cases O with
  | true =>
   have hst : stopS S W L true f l a n 0 = true := by
    unfold stopS
    rw [show scS S W L true f l a n 0 = ([], a, n) from rfl]
    have e1 : readE S W L true (f + a) 1 = 10 := by unfold readE; rw [if_neg (by simpa using h1), if_neg (by rw [Classical.not_not]; omega), if_pos rfl]
    have hx : (nextR S W L true f l a n).2.2 = 10 := by unfold nextR; rw [if_pos (by rw [e1]; simp), e1]
    simp only
    rw [hx]
    simp
   have hN : scN S W L true f l a n = 0 := firstN_is (by omega) (fun j hj => by omega) hst
   have hR : scanR S W L true f l a n = ([], zeroL, 10) := by
    have e1 : readE S W L true (f + a) 1 = 10 := by unfold readE; rw [if_neg (by simpa using h1), if_neg (by rw [Classical.not_not]; omega), if_pos rfl]
    have hx : (nextR S W L true f l a n).2.2 = 10 := by unfold nextR; rw [if_pos (by rw [e1]; simp), e1]
    unfold scanR
    rw [if_neg (by simp [hm]), hN, show scS S W L true f l a n 0 = ([], a, n) from rfl]
    simp only
    rw [hx, if_pos ⟨h9, by simp⟩]
   rw [hR]
   repeat' (first | (show Ev _ _ _ _; first | refine Ev_seq ?_ | refine W_reg ?_ | refine W_ifT ?_ | refine W_ifF ?_ | refine Ev_skip ?_ | refine Ev_ret ?_) | (show EvD _ _ [] _ _ _; refine W_nil ?_) | (show EvD _ _ (_ :: _) _ _ _; first | refine W_run tok ?_ ?_ (by simp (maxSteps := 1000000) (disch := omega) only [go_sem, wrap_i64_id, fm]; with_reducible exact rfl) | refine W_callee ?_) | (show EvC _ _ _ _ _ _ _ _ _; refine W_con ?_ ?_) | (show RetQ _ _ (RP _ _) _ _; refine R_ret ?_ ?_) | (show FrzTo _ _ _ _; refine F_weak ?_) | refine Q_thenN ?_ | refine Q_thenR ?_ | fail)
   all_goals (try exact sd)
   all_goals (try refine F_done ?_)
   all_goals first | rfl | trace_state
  | false =>
   obtain ⟨N, hN⟩ : ∃ N, N = scN S W L false f l a n := ⟨_, rfl⟩
   have hNle : N ≤ S.length + 1 := by rw [hN]; exact firstN_le _ _
   have hNlt : ∀ j, j < N → stopS S W L false f l a n j = false := fun j hj => by rw [hN] at hj; exact firstN_lt hj
   have hfac := fun i (hi : i ≤ N) => sc_facts (S := S) (W := W) (L := L) (O := false) (f := f) (l := l) (a := a) (n := n) h2 (by omega) i (fun j hj => hNlt j (by omega))
   have hfac2 := fun i (hi : i ≤ N) => sc_lt (n := n) h1 h2 h6 h7 (by omega) i (fun j hj => hNlt j (by omega))
   have hNS : N ≤ S.length := by
    obtain ⟨q1, q2⟩ := hfac2 N (Nat.le_refl _)
    obtain ⟨_, _, q3, _⟩ := hfac N (Nat.le_refl _)
    omega
   have hNeq : stopS S W L false f l a n N = true := by
    have h : firstN (S.length + 1) (stopS S W L false f l a n) < S.length + 1 := by
     have h' : scN S W L false f l a n < S.length + 1 := by omega
     exact h'
    have := firstN_eq h
    rw [hN]; exact this
   have hnx := fun i (hi : i ≤ N) => next_eq (n := (scS S W L false f l a n i).2.2) h1 h2 (hfac2 i hi).1 (hfac2 i hi).2 (by omega)
   have hR : scanR S W L false f l a n = ((scS S W L false f l a n N).1, (f, l, (scS S W L false f l a n N).2.1, (scS S W L false f l a n N).2.2), 0) := by
    have h0 : (nextR S W L false f l (scS S W L false f l a n N).2.1 (scS S W L false f l a n N).2.2).2.2 = 0 := by
     by_cases hg : goodR S W f l (scS S W L false f l a n N).2.1 (scS S W L false f l a n N).2.2
     ·rw [((hnx N (Nat.le_refl _)).1 hg).1]
     ·rw [(hnx N (Nat.le_refl _)).2 hg]
    rw [hN] at h0 ⊢
    unfold scanR
    rw [if_neg (by simp [hm]), if_neg (fun h => h.2 h0)]
   rw [hR]
   clear hR hN
   have hsc : ∀ i, scS S W L false f l a n (i + 1) = ((scS S W L false f l a n i).1 ++ [(nextR S W L false f l (scS S W L false f l a n i).2.1 (scS S W L false f l a n i).2.2).1], (scS S W L false f l a n i).2.1 + (nextR S W L false f l (scS S W L false f l a n i).2.1 (scS S W L false f l a n i).2.2).2.1, (scS S W L false f l a n i).2.2 + 1) := fun i => rfl
   obtain ⟨F, rfl⟩ : ∃ F : Nat, f = F := ⟨f.toNat, by omega⟩
   obtain ⟨M, rfl⟩ : ∃ M : Nat, l = M := ⟨l.toNat, by omega⟩
   have hFM : F + M ≤ S.length := by omega
   have hrd := fun t h0 h1' => readS_drop (t := t) h1 h0 h1' hFM
   have hral := readS_len h1 F M hFM
   repeat' (first | (show Ev _ _ _ _; first | refine Ev_seq ?_ | refine W_reg ?_ | refine Ev_block ?_ | refine W_ifF ?_ | refine Ev_skip ?_) | (show EvD _ _ [] _ _ _; refine W_nil ?_) | (show EvD _ _ (_ :: _) _ _ _; first | refine W_run tok ?_ ?_ (by simp (maxSteps := 1000000) (disch := omega) only [go_sem, wrap_i64_id, fm]; with_reducible exact rfl) | refine W_callee ?_) | (show EvC _ _ _ _ _ _ _ _ _; refine W_con ?_ ?_) | refine Q_thenN ?_ | fail)
   all_goals (try exact sd)
   all_goals (try refine F_done ?_)
   refine Ev_lp (M) (fun i => [(7, .str (readS S W F i)), (8, i64 i)]) (fun i => ⟨σ.rows, σ.boxes ++ [some ⟨25, [.sl (secs S), .sl (pends W), .int .i64 L, .bool false]⟩, some ⟨27, [.int .i64 F, .int .i64 M, .int .i64 a, .int .i64 n]⟩, some ⟨27, [.int .i64 0, .int .i64 0, .int .i64 0, .int .i64 0]⟩], σ.maps⟩) [21, 22, 23, 24, 25, 26, 27, 28, 29, 30, 31, 32, 33, 34] ?_ (by first | rfl | (simp only [List.take_zero, List.append_nil]; done)) (fun i hi => ?_)
   ·exact le1
   by_cases hi' : i < M
   ·have iNw : Con Try.prog 43 [diskD S W L false, .int .i64 ((F : Int) + (i : Int))] True (.str (nowS S W (F + i))) := ⟨fun _ => by
     have h := c_bursarref04_Now S W L false (F + i) ⟨hz, by omega⟩
     rwa [show ((F + i : Nat) : Int) = (F : Int) + (i : Int) by omega] at h⟩
    have hrs := readS_succ S W F i
    have hrl := readS_len h1 F i (by omega)
    have hnl : (nowS S W (F + i)).length = 64 := nowN_len h1 (by omega) _ (Nat.le_refl _)
    have ci : decide ((i : Int) < (M : Int)) = true := decide_eq_true (by omega)
    clear hfac hfac2 hnx hsc hNeq hNlt hrd
    repeat' (first | (show Ev _ _ _ _; first | refine Ev_seq ?_ | refine W_reg ?_ | refine Ev_block ?_ | refine W_ifT ?_ | refine Ev_skip ?_) | (show EvD _ _ [] _ _ _; refine W_nil ?_) | (show EvD _ _ (_ :: _) _ _ _; first | refine W_run tok ?_ ?_ (by simp (maxSteps := 1000000) (disch := omega) only [go_sem, wrap_i64_id, ci]; with_reducible exact rfl) | refine W_callee ?_) | (show EvC _ _ _ _ _ _ _ _ _; refine W_con ?_ ?_) | refine Q_thenN ?_ | refine Q_blkN ?_ | fail)
    all_goals (try exact sd)
    all_goals (try refine F_done ?_)
    refine Q_rndN ?_ (by omega) ?_
    rotate_left
    ·rfl
    repeat (first | exact LeL.nil | refine LeL.cons2 ?_ (Le.undef _) | refine LeL.cons2 ?_ (Le.refl _) | refine LeL.cons2 ?_ (Le.sl _) | refine LeL.cons2 ?_ (Le.eq (by first | rfl | exact congrArg _ (by omega))) | refine LeL.cons2 ?_ (Le.eq ?_))
    all_goals first | (rw [hrs]; done) | trace_state
   ·obtain rfl : i = M := by omega
    have ci : decide ((i : Int) < (i : Int)) = false := decide_eq_false (by omega)
    repeat' (first | (show Ev _ _ _ _; first | refine Ev_seq ?_ | refine W_reg ?_ | refine Ev_block ?_ | refine W_ifF ?_ | refine Ev_exit ?_) | (show EvD _ _ [] _ _ _; refine W_nil ?_) | (show EvD _ _ (_ :: _) _ _ _; first | refine W_run tok ?_ ?_ (by simp (maxSteps := 1000000) (disch := omega) only [go_sem, wrap_i64_id, ci]; with_reducible exact rfl)) | refine Q_thenN ?_ | refine Q_thenE ?_ | refine Q_blkE ?_ | refine Q_rndE ?_ | fail)
    all_goals (try exact sd)
    all_goals (try refine F_done ?_)
    refine Ev_seed 9 46 2 rfl (by decide) (by simp only [List.set_cons_succ, List.set_cons_zero]; exact rfl) ?_
    refine Ev_lp (N) (fun j => [(9, .row σ.rows.length (scS S W L false F i a n j).1.length)]) (fun j => ⟨σ.rows ++ [some ⟨pends (scS S W L false F i a n j).1, 46, 2⟩], σ.boxes ++ [some ⟨25, [.sl (secs S), .sl (pends W), .int .i64 L, .bool false]⟩, some ⟨27, [.int .i64 F, .int .i64 i, .int .i64 (scS S W L false F i a n j).2.1, .int .i64 (scS S W L false F i a n j).2.2]⟩, some ⟨27, [.int .i64 0, .int .i64 0, .int .i64 0, .int .i64 0]⟩], σ.maps⟩) [10, 11, 12, 35, 36, 37, 38, 39, 40, 41, 42, 43, 44, 45, 46, 47, 48, 49, 50, 51, 52, 53, 54, 55, 56, 57, 58, 59, 60, 61, 62, 63, 64, 65, 66, 67, 68, 69, 70, 71, 72, 73, 74, 75, 76, 77, 78, 79, 80, 81, 82, 83, 84, 85] ?_ (by simp [scS, pends]) (fun j hi => ?_)
    ·exact le1
    obtain ⟨f1, f2, f3, f4⟩ := hfac j ‹_›
    obtain ⟨f5, f6⟩ := hfac2 j ‹_›
    obtain ⟨x1, x2⟩ := hnx j ‹_›
    have hs1 := hsc j
    have hdr := hrd _ f5 f6
    have e64 : ((64 : Int) * (scS S W L false F i a n j).2.1).toNat = 64 * (scS S W L false F i a n j).2.1.toNat := by omega
    by_cases hj' : j < N
    ·obtain ⟨k1, k2, k3⟩ := stop_no (hNlt j hj')
     have hg : goodR S W F i (scS S W L false F i a n j).2.1 (scS S W L false F i a n j).2.2 := by
      apply Classical.not_not.1
      intro hg
      rw [x2 hg] at k3
      exact k3 rfl
     obtain ⟨y1, y2, y3, y4⟩ := x1 hg
     obtain ⟨g1, g2, g3⟩ := hg
     rw [y1] at hs1
     clear x1 x2 y1 k2 k3
     generalize scS S W L false F i a n j = t at *
     obtain ⟨out, ta, tn⟩ := t
     have f1 : out.length = j := f1
     have f2 : tn = n + j := f2
     have f4 : ta ≤ S.length + 100 := f4
     have f5 : 0 ≤ ta := f5
     have f6 : ta < (i : Int) := f6
     have k1 : tn ≤ 281474976710655 := k1
     have hdr : (readS S W F i).drop (64 * ta.toNat) = restS S W F i ta := hdr
     have e64 : ((64 : Int) * ta).toNat = 64 * ta.toNat := e64
     have hrl : (restS S W F i ta).length ≤ 262144 := by rw [← hdr, List.length_drop, hral]; omega
     simp only at y2 y3 y4 g1 g2 g3 hs1
     generalize restS S W F i ta = b at *
     have iRd := con_eq (i_bursarref05_Read b) (by omega) (by rw [g1, g2, y2])
     have iRm : Con Try.prog 16 [logD F i ta tn, .int .i64 ((rdD b).length : Int)] True (.bool true) := ⟨fun _ => by
      have h := c_bursarref06_Room F i ta tn ((rdD b).length : Int) hl63
      rwa [decide_eq_true g3] at h⟩
     have hdd : (rdD b).length ≤ 6000 := by
      obtain ⟨_, _, q3, _, _⟩ := rd_len g1
      have := (hd_ok (rd_hd g1)).2.1
      omega
     have hT : Int.tdiv ((64 * ((hdN b + 83) / 64) : Nat) : Int) 64 = (((hdN b + 83) / 64 : Nat) : Int) := by
      have h := tdiv_nat (64 * ((hdN b + 83) / 64)) 64
      rwa [show (64 * ((hdN b + 83) / 64)) / 64 = (hdN b + 83) / 64 by omega] at h
     have ca : decide (ta < (i : Int)) = true := decide_eq_true f6
     have cn : decide (tn ≤ 281474976710655) = true := decide_eq_true k1
     have rt : decide (tn = tn) = true := decide_eq_true rfl
     have hps := pends_snoc2 out tn (rdD b)
     generalize rdD b = dd at *
     have hpl := pends_len out
     rw [f1] at hpl
     repeat' (first | (show Ev _ _ _ _; first | refine Ev_seq ?_ | refine W_reg ?_ | refine Ev_block ?_ | refine W_ifT ?_ | refine W_ifF ?_ | refine Ev_skip ?_) | (show EvD _ _ [] _ _ _; refine W_nil ?_) | (show EvD _ _ (_ :: _) _ _ _; first | refine W_run tok ?_ ?_ (by simp (maxSteps := 1000000) (disch := omega) only [go_sem, wrap_i64_id, ca, cn, rt, e64, hdr, List.take_length, hT, hps, hpl, f1]; with_reducible exact rfl) | refine W_callee ?_) | (show EvC _ _ _ _ _ _ _ _ _; refine W_con ?_ ?_) | refine Q_thenN ?_ | refine Q_blkN ?_ | fail)
     all_goals (try exact sd)
     all_goals (try refine F_done ?_)
     refine Q_rndC (Rb := σ.rows) (A := σ.boxes) (Mb := σ.maps) (R := ((fun j => [some ⟨pends (scS S W L false F i a n j).1, 46, 2⟩]) (j))) (R' := ((fun j => [some ⟨pends (scS S W L false F i a n j).1, 46, 2⟩]) (j + 1))) (B := ((fun j => [some ⟨25, [.sl (secs S), .sl (pends W), .int .i64 L, .bool false]⟩, some ⟨27, [.int .i64 F, .int .i64 i, .int .i64 (scS S W L false F i a n j).2.1, .int .i64 (scS S W L false F i a n j).2.2]⟩, some ⟨27, [.int .i64 0, .int .i64 0, .int .i64 0, .int .i64 0]⟩]) (j))) (B' := ((fun j => [some ⟨25, [.sl (secs S), .sl (pends W), .int .i64 L, .bool false]⟩, some ⟨27, [.int .i64 F, .int .i64 i, .int .i64 (scS S W L false F i a n j).2.1, .int .i64 (scS S W L false F i a n j).2.2]⟩, some ⟨27, [.int .i64 0, .int .i64 0, .int .i64 0, .int .i64 0]⟩]) (j + 1))) (M := []) (M' := []) ?_ (by omega) (by first | rfl | simp only [List.append_nil]) (by first | rfl | simp only [List.append_nil]) (by first | ((try simp only [List.append_nil, List.cons_append, List.nil_append, List.append_assoc, hs1]) <;> exact rfl) | exact (List.append_nil _).symm) (by first | ((try simp only [List.append_nil, List.cons_append, List.nil_append, List.append_assoc, hs1]) <;> exact rfl) | exact (List.append_nil _).symm) (by first | ((try simp only [List.append_nil, List.cons_append, List.nil_append, List.append_assoc, hs1]) <;> exact rfl) | exact (List.append_nil _).symm) (by simp) (by simp) (by simp) (by simp [nameds, DV.named, bytes_named, nameds_append, pends_named, secs_named] <;> omega) (by repeat (first | exact allN_nil _ | refine allN_none ?_ | refine allN_some (by first | exact bytes_named _ _ _ _ | (simp [nameds, DV.named, bytes_named, nameds_append, pends_named, secs_named] <;> omega)) ?_)) (by repeat (first | exact allN_nil _ | refine allN_none ?_ | refine allN_some (by first | exact bytes_named _ _ _ _ | (simp [nameds, DV.named, bytes_named, nameds_append, pends_named, secs_named] <;> omega)) ?_)) (by simp)
     repeat (first | exact LeL.nil | refine LeL.cons2 ?_ (Le.undef _) | refine LeL.cons2 ?_ (Le.refl _) | refine LeL.cons2 ?_ (Le.sl _) | refine LeL.cons2 ?_ (Le.eq (by first | rfl | exact congrArg _ (by omega))) | refine LeL.cons2 ?_ (Le.eq ?_))
     all_goals first | (rw [hs1, f1]; simp [f1]; done) | (rw [hs1]; simp [f1]; done) | trace_state
    ·obtain rfl : j = N := by omega
     clear hs1
     by_cases hn : (scS S W L false F i a n j).2.2 ≤ 281474976710655
     ·have hg : ¬ goodR S W F i (scS S W L false F i a n j).2.1 (scS S W L false F i a n j).2.2 := by
       intro hg
       obtain ⟨y1, y2, y3, y4⟩ := x1 hg
       have h := hNeq
       unfold stopS at h
       rw [y1, decide_eq_true hn] at h
       simp at h
       omega
      clear x1 x2 hNeq
      unfold goodR at hg
      generalize scS S W L false F i a n j = t at *
      obtain ⟨out, ta, tn⟩ := t
      have f1 : out.length = j := f1
      have f5 : 0 ≤ ta := f5
      have f6 : ta < (i : Int) := f6
      have hn : tn ≤ 281474976710655 := hn
      have hdr : (readS S W F i).drop (64 * ta.toNat) = restS S W F i ta := hdr
      have e64 : ((64 : Int) * ta).toNat = 64 * ta.toNat := e64
      have hrl : (restS S W F i ta).length ≤ 262144 := by rw [← hdr, List.length_drop, hral]; omega
      simp only at hg
      generalize restS S W F i ta = b at *
      have ca : decide (ta < (i : Int)) = true := decide_eq_true f6
      have cn : decide (tn ≤ 281474976710655) = true := decide_eq_true hn
      have hpl := pends_len out
      by_cases g1 : rdE b = 0
      ·have iRd := con_eq (i_bursarref05_Read b) (by omega) (by rw [g1])
       by_cases g2 : rdS b = tn
       ·have g3 : ¬ roomL i ta (rdD b).length := fun h => hg ⟨g1, g2, h⟩
        have iRm : Con Try.prog 16 [logD F i ta tn, .int .i64 ((rdD b).length : Int)] True (.bool false) := ⟨fun _ => by
         have h := c_bursarref06_Room F i ta tn ((rdD b).length : Int) hl63
         rwa [decide_eq_false g3] at h⟩
        have hdd : (rdD b).length ≤ 6000 := by
         obtain ⟨_, _, q3, _, _⟩ := rd_len g1
         have := (hd_ok (rd_hd g1)).2.1
         omega
        rw [g2] at iRd
        have rt : decide (tn = tn) = true := decide_eq_true rfl
        repeat' (first | (show Ev _ (.region _ _ true) _ _; refine D_startA [9, 49, 51, 54, 65, 68, 99998] mix ?_) | (show DrD _ _ _ [] _ _ _ _; refine D_nil ?_; try dsimp only) | (show DrD _ EA _ (_ :: _) _ _ _ _; first | refine D_runLA tok ?_ ?_ (h := by intro R; simp (maxSteps := 1000000) (disch := omega) only [go_sem, wrap_i64_id, ca, cn, rt, e64, hdr, List.take_length, hpl]; with_reducible exact rfl)) | (show DrD _ _ _ (_ :: _) _ _ _ _; first | refine D_store tok ?_ ?_ | refine D_hold tok ?_ ?_) | (show Ev _ _ _ _; first | refine Ev_seq ?_ | refine W_reg ?_ | refine Ev_block ?_ | refine W_ifT ?_ | refine Ev_skip ?_ | refine Ev_exit ?_ | refine Ev_ret ?_) | (show EvD _ _ [] _ _ _; refine W_nil ?_) | (show EvD _ _ (_ :: _) _ _ _; first | refine W_run tok ?_ ?_ (by simp (maxSteps := 1000000) (disch := omega) only [go_sem, wrap_i64_id, ca, cn, rt, e64, hdr, List.take_length, hpl]; with_reducible exact rfl) | refine W_callee ?_) | (show EvC _ _ _ _ _ _ _ _ _; refine W_con ?_ ?_) | (show RetQ _ _ (RP _ _) _ _; refine R_ret ?_ ?_) | (show FrzTo _ _ _ _; refine F_row ?_) | refine Q_thenN ?_ | refine Q_thenE ?_ | refine Q_blkE ?_ | (show blockQ _ _ _ _; refine Q_blkX ?_) | refine Q_rndE ?_ | fail)
        all_goals (try exact sd)
        all_goals (try refine F_done ?_)
        all_goals first | rfl | trace_state
       ·have rt : decide (rdS b = tn) = false := decide_eq_false g2
        repeat' (first | (show Ev _ (.region _ _ true) _ _; refine D_startA [9, 49, 51, 54, 65, 68, 99998] mix ?_) | (show DrD _ _ _ [] _ _ _ _; refine D_nil ?_; try dsimp only) | (show DrD _ EA _ (_ :: _) _ _ _ _; first | refine D_runLA tok ?_ ?_ (h := by intro R; simp (maxSteps := 1000000) (disch := omega) only [go_sem, wrap_i64_id, ca, cn, rt, e64, hdr, List.take_length, hpl]; with_reducible exact rfl)) | (show DrD _ _ _ (_ :: _) _ _ _ _; first | refine D_store tok ?_ ?_ | refine D_hold tok ?_ ?_) | (show Ev _ _ _ _; first | refine Ev_seq ?_ | refine W_reg ?_ | refine Ev_block ?_ | refine W_ifT ?_ | refine Ev_skip ?_ | refine Ev_exit ?_ | refine Ev_ret ?_) | (show EvD _ _ [] _ _ _; refine W_nil ?_) | (show EvD _ _ (_ :: _) _ _ _; first | refine W_run tok ?_ ?_ (by simp (maxSteps := 1000000) (disch := omega) only [go_sem, wrap_i64_id, ca, cn, rt, e64, hdr, List.take_length, hpl]; with_reducible exact rfl) | refine W_callee ?_) | (show EvC _ _ _ _ _ _ _ _ _; refine W_con ?_ ?_) | (show RetQ _ _ (RP _ _) _ _; refine R_ret ?_ ?_) | (show FrzTo _ _ _ _; refine F_row ?_) | refine Q_thenN ?_ | refine Q_thenE ?_ | refine Q_blkE ?_ | (show blockQ _ _ _ _; refine Q_blkX ?_) | refine Q_rndE ?_ | fail)
        all_goals (try exact sd)
        all_goals (try refine F_done ?_)
        all_goals first | rfl | trace_state
      ·have rt : decide (rdE b = 0) = false := decide_eq_false g1
       have iRd := con_eq (i_bursarref05_Read b) (by omega) rfl
       repeat' (first | (show Ev _ (.region _ _ true) _ _; refine D_startA [9, 49, 51, 54, 65, 68, 99998] mix ?_) | (show DrD _ _ _ [] _ _ _ _; refine D_nil ?_; try dsimp only) | (show DrD _ EA _ (_ :: _) _ _ _ _; first | refine D_runLA tok ?_ ?_ (h := by intro R; simp (maxSteps := 1000000) (disch := omega) only [go_sem, wrap_i64_id, ca, cn, rt, e64, hdr, List.take_length, hpl]; with_reducible exact rfl)) | (show DrD _ _ _ (_ :: _) _ _ _ _; first | refine D_store tok ?_ ?_ | refine D_hold tok ?_ ?_) | (show Ev _ _ _ _; first | refine Ev_seq ?_ | refine W_reg ?_ | refine Ev_block ?_ | refine W_ifT ?_ | refine Ev_skip ?_ | refine Ev_exit ?_ | refine Ev_ret ?_) | (show EvD _ _ [] _ _ _; refine W_nil ?_) | (show EvD _ _ (_ :: _) _ _ _; first | refine W_run tok ?_ ?_ (by simp (maxSteps := 1000000) (disch := omega) only [go_sem, wrap_i64_id, ca, cn, rt, e64, hdr, List.take_length, hpl]; with_reducible exact rfl) | refine W_callee ?_) | (show EvC _ _ _ _ _ _ _ _ _; refine W_con ?_ ?_) | (show RetQ _ _ (RP _ _) _ _; refine R_ret ?_ ?_) | (show FrzTo _ _ _ _; refine F_row ?_) | refine Q_thenN ?_ | refine Q_thenE ?_ | refine Q_blkE ?_ | (show blockQ _ _ _ _; refine Q_blkX ?_) | refine Q_rndE ?_ | fail)
       all_goals (try exact sd)
       all_goals (try refine F_done ?_)
       all_goals first | rfl | trace_state
     ·clear x1 x2 hNeq
      generalize scS S W L false F i a n j = t at *
      obtain ⟨out, ta, tn⟩ := t
      have f1 : out.length = j := f1
      have f6 : ta < (i : Int) := f6
      have ca : decide (ta < (i : Int)) = true := decide_eq_true f6
      have cn : decide (tn ≤ 281474976710655) = false := decide_eq_false hn
      have hpl := pends_len out
      repeat' (first | (show Ev _ (.region _ _ true) _ _; refine D_startA [9, 49, 51, 54, 65, 68, 99998] mix ?_) | (show DrD _ _ _ [] _ _ _ _; refine D_nil ?_; try dsimp only) | (show DrD _ EA _ (_ :: _) _ _ _ _; first | refine D_runLA tok ?_ ?_ (h := by intro R; simp (maxSteps := 1000000) (disch := omega) only [go_sem, wrap_i64_id, ca, cn, hpl]; with_reducible exact rfl)) | (show DrD _ _ _ (_ :: _) _ _ _ _; first | refine D_store tok ?_ ?_ | refine D_hold tok ?_ ?_) | (show Ev _ _ _ _; first | refine Ev_seq ?_ | refine W_reg ?_ | refine W_ifF ?_ | refine Ev_exit ?_ | refine Ev_ret ?_) | (show EvD _ _ [] _ _ _; refine W_nil ?_) | (show EvD _ _ (_ :: _) _ _ _; first | refine W_run tok ?_ ?_ (by simp (maxSteps := 1000000) (disch := omega) only [go_sem, wrap_i64_id, ca, cn, hpl]; with_reducible exact rfl)) | (show RetQ _ _ (RP _ _) _ _; refine R_ret ?_ ?_) | (show FrzTo _ _ _ _; refine F_row ?_) | refine Q_thenN ?_ | refine Q_thenE ?_ | refine Q_blkE ?_ | refine Q_rndE ?_ | fail)
      all_goals (try exact sd)
      all_goals (try refine F_done ?_)
      all_goals first | rfl | trace_state
 ·have hR : scanR S W L O f l a n = ([], zeroL, 1) := by unfold scanR; rw [if_pos hm]
  have fm : decide (mayL S W L f l a n) = false := decide_eq_false hm
  rw [hR]
  repeat' (first | (show Ev _ _ _ _; first | refine Ev_seq ?_ | refine W_reg ?_ | refine W_ifT ?_ | refine Ev_ret ?_) | (show EvD _ _ [] _ _ _; refine W_nil ?_) | (show EvD _ _ (_ :: _) _ _ _; first | refine W_run tok ?_ ?_ (by simp (maxSteps := 1000000) (disch := omega) only [go_sem, wrap_i64_id, fm]; with_reducible exact rfl) | refine W_callee ?_) | (show EvC _ _ _ _ _ _ _ _ _; refine W_con ?_ ?_) | (show RetQ _ _ (RP _ _) _ _; refine R_ret ?_ ?_) | (show FrzTo _ _ _ _; refine F_weak ?_) | refine Q_thenN ?_ | refine Q_thenR ?_ | fail)
  all_goals (try exact sd)
  all_goals (try refine F_done ?_)
  all_goals first | rfl | trace_state
instance i_bursarref06_Scan (S : List (List UInt8)) (W : List (Int × List UInt8)) (L : Int) (O : Bool) (f l a n : Int) : Con Try.prog 23 [diskD S W L O, logD f l a n] (szP S W ∧ l < 9223372036854775808) (.tup [.sl (pends (scanR S W L O f l a n).1), lgD (scanR S W L O f l a n).2.1, .int .i64 (scanR S W L O f l a n).2.2]) := ⟨c_bursarref06_Scan S  W  L  O  f l a n ⟩
end Go.Val.Ytlfnmgmbmgacgaa
