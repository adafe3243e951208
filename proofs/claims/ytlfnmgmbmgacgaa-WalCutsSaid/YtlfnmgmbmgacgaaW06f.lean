/- Chapter 06: all that a log has, walked. -/
import Derived.Test.YtlfnmgmbmgacgaaW06e
namespace Go.Val.Ytlfnmgmbmgacgaa
open Go Go.Val Go.Proofs Go.Proofs.Ytlfnmgmbmgacgaa
attribute [local irreducible] Ev EvD EvC thenQ blockQ RoundG RetQ
set_option maxRecDepth 100000
set_option maxHeartbeats 4000000
set_option linter.unusedSimpArgs false
set_option linter.unusedVariables false
theorem pends_snoc2 (A : List (Int × List UInt8)) (s : Int) (d : List UInt8) : pends A ++ [frameD s d] = pends (A ++ [(s, d)]) := by simp [pends, pendD]
def scS (S : List (List UInt8)) (W : List (Int × List UInt8)) (L : Int) (O : Bool) (f l a n : Int) : Nat → List (Int × List UInt8) × Int × Int
 | 0 => ([], a, n)
 | i + 1 => ((scS S W L O f l a n i).1 ++ [(nextR S W L O f l (scS S W L O f l a n i).2.1 (scS S W L O f l a n i).2.2).1],
   (scS S W L O f l a n i).2.1 + (nextR S W L O f l (scS S W L O f l a n i).2.1 (scS S W L O f l a n i).2.2).2.1, (scS S W L O f l a n i).2.2 + 1)
def stopS (S : List (List UInt8)) (W : List (Int × List UInt8)) (L : Int) (O : Bool) (f l a n : Int) (i : Nat) : Bool :=
 !decide ((scS S W L O f l a n i).2.2 ≤ 281474976710655) || (!decide ((nextR S W L O f l (scS S W L O f l a n i).2.1 (scS S W L O f l a n i).2.2).2.2 = 0) || decide ((nextR S W L O f l (scS S W L O f l a n i).2.1 (scS S W L O f l a n i).2.2).2.1 = 0))
def scN (S : List (List UInt8)) (W : List (Int × List UInt8)) (L : Int) (O : Bool) (f l a n : Int) : Nat := firstN (S.length + 1) (stopS S W L O f l a n)
def scanR (S : List (List UInt8)) (W : List (Int × List UInt8)) (L : Int) (O : Bool) (f l a n : Int) : List (Int × List UInt8) × (Int × Int × Int × Int) × Int :=
 if ¬ mayL S W L f l a n then ([], zeroL, 1) else
 if (scS S W L O f l a n (scN S W L O f l a n)).2.2 ≤ 281474976710655 ∧ (nextR S W L O f l (scS S W L O f l a n (scN S W L O f l a n)).2.1 (scS S W L O f l a n (scN S W L O f l a n)).2.2).2.2 ≠ 0 then
  ([], zeroL, (nextR S W L O f l (scS S W L O f l a n (scN S W L O f l a n)).2.1 (scS S W L O f l a n (scN S W L O f l a n)).2.2).2.2)
 else ((scS S W L O f l a n (scN S W L O f l a n)).1, (f, l, (scS S W L O f l a n (scN S W L O f l a n)).2.1, (scS S W L O f l a n (scN S W L O f l a n)).2.2), 0)
theorem nx_pos {S : List (List UInt8)} {W : List (Int × List UInt8)} {L : Int} {O : Bool} {f l a n : Int} (he : (nextR S W L O f l a n).2.2 = 0) (hk : (nextR S W L O f l a n).2.1 ≠ 0) :
  1 ≤ (nextR S W L O f l a n).2.1 ∧ (nextR S W L O f l a n).2.1 ≤ 100 ∧ f + a + 1 ≤ S.length := by
 unfold nextR at he hk ⊢
 by_cases e1 : readE S W L O (f + a) 1 = 0
 ·rw [if_neg (by simp [e1])] at he hk ⊢
  by_cases hb : hdBad S W (f + a) l a n
  ·rw [if_pos hb] at hk; exact absurd rfl hk
  ·rw [if_neg hb] at he hk ⊢
   by_cases e2 : readE S W L O (f + a) (nq S W (f + a)) = 0
   ·rw [if_neg (by simp [e2])] at he hk ⊢
    by_cases e3 : rdE (nb2 S W (f + a)) = 0
    ·rw [if_neg (by simp [e3])] at he hk ⊢
     have h6 := (hd_ok (rd_hd e3)).2.1
     have hr1 : f + a + 1 ≤ S.length := by
      unfold readE at e1
      split at e1
      ·omega
      ·split at e1
       ·omega
       ·omega
     refine ⟨?_, ?_, hr1⟩
     ·simp only; omega
     ·simp only; omega
    ·rw [if_pos e3] at hk; exact absurd rfl hk
   ·rw [if_pos e2] at hk; exact absurd rfl hk
 ·rw [if_pos e1] at hk; exact absurd rfl hk
theorem stop_no {S : List (List UInt8)} {W : List (Int × List UInt8)} {L : Int} {O : Bool} {f l a n : Int} {i : Nat} (h : stopS S W L O f l a n i = false) :
  (scS S W L O f l a n i).2.2 ≤ 281474976710655 ∧ (nextR S W L O f l (scS S W L O f l a n i).2.1 (scS S W L O f l a n i).2.2).2.2 = 0 ∧ (nextR S W L O f l (scS S W L O f l a n i).2.1 (scS S W L O f l a n i).2.2).2.1 ≠ 0 := by
 simpa [stopS] using h
theorem sc_facts {S : List (List UInt8)} {W : List (Int × List UInt8)} {L : Int} {O : Bool} {f l a n : Int} (hf : 0 ≤ f) (ha : a ≤ S.length + 100) : ∀ i, (∀ j, j < i → stopS S W L O f l a n j = false) →
  (scS S W L O f l a n i).1.length = i ∧ (scS S W L O f l a n i).2.2 = n + i ∧ a + i ≤ (scS S W L O f l a n i).2.1 ∧ (scS S W L O f l a n i).2.1 ≤ S.length + 100
 | 0, _ => ⟨rfl, by simp [scS], by simp [scS], ha⟩
 | i + 1, h => by
  obtain ⟨h1, h2, h3, h4⟩ := sc_facts hf ha i (fun j hj => h j (by omega))
  obtain ⟨k1, k2, k3⟩ := stop_no (h i (by omega))
  obtain ⟨p1, p2, p3⟩ := nx_pos k2 k3
  unfold scS
  refine ⟨by rw [List.length_append, h1]; rfl, by simp only; omega, by simp only; omega, by simp only; omega⟩
theorem c_wal_Scan (S : List (List UInt8)) (W : List (Int × List UInt8)) (L : Int) (O : Bool) (f l a n : Int) (hC : szP S W) : Pure Try.prog n_wal_Scan [diskD S W L O, logD f l a n] (.tup [.sl (pends (scanR S W L O f l a n).1), lgD (scanR S W L O f l a n).2.1, .int .i64 (scanR S W L O f l a n).2.2]) := by
 refine Pure.go tok (rs := [.tmp 4, .cell 5 27, .tmp 6]) [diskD S W L O, logD f l a n, .undef, .undef, .undef, .undef, .undef, .undef, .undef, .undef, .undef, .undef, .undef, .undef, .undef, .undef, .undef, .undef, .undef, .undef, .undef, .undef, .undef, .undef, .undef, .undef, .undef, .undef, .undef, .undef, .undef, .undef, .undef, .undef, .undef, .undef, .undef, .undef, .undef, .undef, .undef, .undef, .undef, .undef, .undef, .undef, .undef, .undef, .undef, .undef, .undef] Try.func21 (fun σ => ?_)
 by_cases hm : mayL S W L f l a n
 ·obtain ⟨h1, h2, h3, h4, h5, h6, h7, h8, h9⟩ := id hm
  have h1S := h1.1
  obtain ⟨N, hN⟩ : ∃ N, N = scN S W L O f l a n := ⟨_, rfl⟩
  have hNle : N ≤ S.length + 1 := by rw [hN]; exact firstN_le _ _
  have hNlt : ∀ j, j < N → stopS S W L O f l a n j = false := fun j hj => by rw [hN] at hj; exact firstN_lt hj
  have hfac := fun i (hi : i ≤ N) => sc_facts (S := S) (W := W) (L := L) (O := O) (f := f) (l := l) (a := a) (n := n) h2 (by omega) i (fun j hj => hNlt j (by omega))
  have hNS : N ≤ S.length := by
   rcases Nat.lt_or_ge S.length N with h | h
   ·exfalso
    obtain ⟨f1, f2, f3, f4⟩ := hfac S.length (by omega)
    obtain ⟨k1, k2, k3⟩ := stop_no (hNlt S.length h)
    obtain ⟨p1, p2, p3⟩ := nx_pos k2 k3
    omega
   ·exact h
  have hNeq : stopS S W L O f l a n N = true := by
   have h : firstN (S.length + 1) (stopS S W L O f l a n) < S.length + 1 := by
    have h' : scN S W L O f l a n < S.length + 1 := by omega
    exact h'
   have := firstN_eq h
   rw [hN]; exact this
  have hR : scanR S W L O f l a n = if (scS S W L O f l a n N).2.2 ≤ 281474976710655 ∧ (nextR S W L O f l (scS S W L O f l a n N).2.1 (scS S W L O f l a n N).2.2).2.2 ≠ 0 then ([], zeroL, (nextR S W L O f l (scS S W L O f l a n N).2.1 (scS S W L O f l a n N).2.2).2.2) else ((scS S W L O f l a n N).1, (f, l, (scS S W L O f l a n N).2.1, (scS S W L O f l a n N).2.2), 0) := by
   rw [hN]; unfold scanR; rw [if_neg (by simp [hm])]
  rw [hR]
  clear hR hN
  repeat' (first | (show Ev _ _ _ _; first | refine Ev_seq ?_ | refine W_reg ?_ | refine Ev_block ?_ | refine W_ifN ?_ | refine Ev_skip ?_) | (show EvD _ _ [] _ _ _; refine W_nil ?_) | (show EvD _ _ (_ :: _) _ _ _; first | refine W_run tok ?_ ?_ (by simp (maxSteps := 1000000) (disch := omega) only [go_sem, wrap_i64_id]; with_reducible exact rfl) | refine W_callee ?_) | (show EvC _ _ _ _ _ _ _ _ _; refine W_con ?_ ?_) | refine Q_thenN ?_ | fail)
  all_goals (try exact sd)
  all_goals (try refine F_done ?_)
  refine Ev_seed 7 46 2 rfl (by decide) (by simp only [List.set_cons_succ, List.set_cons_zero]; exact rfl) ?_
  refine Ev_lp (N) (fun i => [(7, .row σ.rows.length (scS S W L O f l a n i).1.length)]) (fun i => ⟨σ.rows ++ [some ⟨pends (scS S W L O f l a n i).1, 46, 2⟩], σ.boxes ++ [some ⟨25, [.sl (secs S), .sl (pends W), .int .i64 L, .bool O]⟩, some ⟨27, [.int .i64 f, .int .i64 l, .int .i64 (scS S W L O f l a n i).2.1, .int .i64 (scS S W L O f l a n i).2.2]⟩, some ⟨27, [.int .i64 0, .int .i64 0, .int .i64 0, .int .i64 0]⟩], σ.maps⟩) [4, 6, 8, 9, 10, 16, 17, 18, 19, 20, 21, 22, 23, 24, 25, 26, 27, 28, 29, 30, 31, 32, 33, 34, 35, 36, 37, 38, 39, 40, 41, 42, 43, 44, 45, 46, 47, 48] ?_ (by simp [scS, pends]) (fun i hi => ?_)
  ·exact le1
  obtain ⟨f1, f2, f3, f4⟩ := hfac i hi
  have hs1 : scS S W L O f l a n (i + 1) = ((scS S W L O f l a n i).1 ++ [(nextR S W L O f l (scS S W L O f l a n i).2.1 (scS S W L O f l a n i).2.2).1], (scS S W L O f l a n i).2.1 + (nextR S W L O f l (scS S W L O f l a n i).2.1 (scS S W L O f l a n i).2.2).2.1, (scS S W L O f l a n i).2.2 + 1) := rfl
  have iX := i_wal_next S W L O f l (scS S W L O f l a n i).2.1 (scS S W L O f l a n i).2.2
  by_cases hi' : i < N
  ·obtain ⟨k1, k2, k3⟩ := stop_no (hNlt i hi')
   obtain ⟨p1, p2, p3⟩ := nx_pos k2 k3
   generalize nextR S W L O f l (scS S W L O f l a n i).2.1 (scS S W L O f l a n i).2.2 = r at *
   obtain ⟨⟨rs, rd⟩, rk, re⟩ := r
   simp only at k2 k3 p1 p2
   subst k2
   generalize scS S W L O f l a n i = t at *
   obtain ⟨out, ta, tn⟩ := t
   have f1 : out.length = i := f1
   have f2 : tn = n + i := f2
   have f3 : a + i ≤ ta := f3
   have f4 : ta ≤ S.length + 100 := f4
   have k1 : tn ≤ 281474976710655 := k1
   have hs1 : scS S W L O f l a n (i + 1) = (out ++ [(rs, rd)], ta + rk, tn + 1) := hs1
   have iX : Con Try.prog 42 [diskD S W L O, logD f l ta tn] True (.tup [frameD rs rd, .int .i64 rk, .int .i64 0]) := con_eq iX ⟨hC, by omega, by omega, by omega, by omega, by omega⟩ rfl
   repeat' (first | (show Ev _ _ _ _; first | refine Ev_seq ?_ | refine W_reg ?_ | refine Ev_block ?_ | refine W_ifF ?_ | refine W_ifY ?_ | refine W_ifN ?_ | refine Ev_skip ?_) | (show EvD _ _ [] _ _ _; refine W_nil ?_) | (show EvD _ _ (_ :: _) _ _ _; first | refine W_run tok ?_ ?_ (by simp (maxSteps := 1000000) (disch := omega) only [go_sem, wrap_i64_id, pends_snoc2]; with_reducible exact rfl) | refine W_callee ?_) | (show EvC _ _ _ _ _ _ _ _ _; refine W_con ?_ ?_) | refine Q_thenN ?_ | refine Q_blkN ?_ | fail)
   all_goals (try exact sd)
   all_goals (try refine F_done ?_)
   refine Q_rndC (Rb := σ.rows) (A := σ.boxes) (Mb := σ.maps) (R := ((fun i => [some ⟨pends (scS S W L O f l a n i).1, 46, 2⟩]) (i))) (R' := ((fun i => [some ⟨pends (scS S W L O f l a n i).1, 46, 2⟩]) (i + 1))) (B := ((fun i => [some ⟨25, [.sl (secs S), .sl (pends W), .int .i64 L, .bool O]⟩, some ⟨27, [.int .i64 f, .int .i64 l, .int .i64 (scS S W L O f l a n i).2.1, .int .i64 (scS S W L O f l a n i).2.2]⟩, some ⟨27, [.int .i64 0, .int .i64 0, .int .i64 0, .int .i64 0]⟩]) (i))) (B' := ((fun i => [some ⟨25, [.sl (secs S), .sl (pends W), .int .i64 L, .bool O]⟩, some ⟨27, [.int .i64 f, .int .i64 l, .int .i64 (scS S W L O f l a n i).2.1, .int .i64 (scS S W L O f l a n i).2.2]⟩, some ⟨27, [.int .i64 0, .int .i64 0, .int .i64 0, .int .i64 0]⟩]) (i + 1))) (M := []) (M' := []) ?_ (by omega) (by first | rfl | simp only [List.append_nil]) (by first | rfl | simp only [List.append_nil]) (by first | ((try simp only [List.append_nil, List.cons_append, List.nil_append, List.append_assoc, hs1]) <;> exact rfl) | exact (List.append_nil _).symm) (by first | ((try simp only [List.append_nil, List.cons_append, List.nil_append, List.append_assoc, hs1]) <;> exact rfl) | exact (List.append_nil _).symm) (by first | ((try simp only [List.append_nil, List.cons_append, List.nil_append, List.append_assoc, hs1]) <;> exact rfl) | exact (List.append_nil _).symm) (by simp) (by simp) (by simp) (by simp [nameds, DV.named, bytes_named, nameds_append, pends_named, secs_named] <;> omega) (by repeat (first | exact allN_nil _ | refine allN_none ?_ | refine allN_some (by first | exact bytes_named _ _ _ _ | (simp [nameds, DV.named, bytes_named, nameds_append, pends_named, secs_named] <;> omega)) ?_)) (by repeat (first | exact allN_nil _ | refine allN_none ?_ | refine allN_some (by first | exact bytes_named _ _ _ _ | (simp [nameds, DV.named, bytes_named, nameds_append, pends_named, secs_named] <;> omega)) ?_)) (by simp)
   repeat (first | exact LeL.nil | refine LeL.cons2 ?_ (Le.undef _) | refine LeL.cons2 ?_ (Le.refl _) | refine LeL.cons2 ?_ (Le.sl _) | refine LeL.cons2 ?_ (Le.eq (by first | rfl | exact congrArg _ (by omega))) | refine LeL.cons2 ?_ (Le.eq ?_))
   all_goals (first | (rw [hs1]; simp; done) | skip)
  ·obtain rfl : i = N := by omega
   clear hi'
   by_cases hn : (scS S W L O f l a n i).2.2 ≤ 281474976710655
   ·by_cases he : (nextR S W L O f l (scS S W L O f l a n i).2.1 (scS S W L O f l a n i).2.2).2.2 = 0
    ·have hk : (nextR S W L O f l (scS S W L O f l a n i).2.1 (scS S W L O f l a n i).2.2).2.1 = 0 := by
      have h := hNeq
      unfold stopS at h
      rw [decide_eq_true hn, decide_eq_true he] at h
      simpa using h
     rw [if_neg (by simp [he])]
     generalize nextR S W L O f l (scS S W L O f l a n i).2.1 (scS S W L O f l a n i).2.2 = r at *
     obtain ⟨⟨rs, rd⟩, rk, re⟩ := r
     have he : re = 0 := he
     have hk : rk = 0 := hk
     subst he; subst hk
     generalize scS S W L O f l a n i = t at *
     obtain ⟨out, ta, tn⟩ := t
     have f1 : out.length = i := f1
     have f2 : tn = n + i := f2
     have f3 : a + i ≤ ta := f3
     have f4 : ta ≤ S.length + 100 := f4
     have hn : tn ≤ 281474976710655 := hn
     have iX : Con Try.prog 42 [diskD S W L O, logD f l ta tn] True (.tup [frameD rs rd, .int .i64 0, .int .i64 0]) := con_eq iX ⟨hC, by omega, by omega, by omega, by omega, by omega⟩ rfl
     repeat' (first | (show Ev _ (.region _ _ true) _ _; refine D_startA [9, 49, 51, 54, 65, 68, 99998] mix ?_) | (show DrD _ _ _ [] _ _ _ _; refine D_nil ?_; try dsimp only) | (show DrD _ EA _ (_ :: _) _ _ _ _; first | refine D_runLA tok ?_ ?_ (h := by intro R; simp (maxSteps := 1000000) (disch := omega) only [go_sem, wrap_i64_id]; with_reducible exact rfl)) | (show DrD _ _ _ (_ :: _) _ _ _ _; first | refine D_store tok ?_ ?_ | refine D_hold tok ?_ ?_) | (show Ev _ _ _ _; first | refine Ev_seq ?_ | refine W_reg ?_ | refine Ev_block ?_ | refine W_ifT ?_ | refine W_ifF ?_ | refine W_ifY ?_ | refine Ev_skip ?_ | refine Ev_ret ?_) | (show EvD _ _ [] _ _ _; refine W_nil ?_) | (show EvD _ _ (_ :: _) _ _ _; first | refine W_run tok ?_ ?_ (by simp (maxSteps := 1000000) (disch := omega) only [go_sem, wrap_i64_id]; with_reducible exact rfl) | refine W_callee ?_) | (show EvC _ _ _ _ _ _ _ _ _; refine W_con ?_ ?_) | (show RetQ _ _ (RP _ _) _ _; refine R_ret ?_ ?_) | (show FrzTo _ _ _ _; refine F_row ?_) | refine Q_thenN ?_ | refine Q_thenR ?_ | refine Q_blkR ?_ | refine Q_rndR ?_ | fail)
     all_goals (try exact sd)
     all_goals (try refine F_done ?_)
     all_goals rfl
    ·rw [if_pos ⟨hn, he⟩]
     generalize nextR S W L O f l (scS S W L O f l a n i).2.1 (scS S W L O f l a n i).2.2 = r at *
     obtain ⟨⟨rs, rd⟩, rk, re⟩ := r
     have he : ¬ re = 0 := he
     generalize scS S W L O f l a n i = t at *
     obtain ⟨out, ta, tn⟩ := t
     have f1 : out.length = i := f1
     have f2 : tn = n + i := f2
     have f3 : a + i ≤ ta := f3
     have f4 : ta ≤ S.length + 100 := f4
     have hn : tn ≤ 281474976710655 := hn
     have iX : Con Try.prog 42 [diskD S W L O, logD f l ta tn] True (.tup [frameD rs rd, .int .i64 rk, .int .i64 re]) := con_eq iX ⟨hC, by omega, by omega, by omega, by omega, by omega⟩ rfl
     repeat' (first | (show Ev _ _ _ _; first | refine Ev_seq ?_ | refine W_reg ?_ | refine Ev_block ?_ | refine W_ifY ?_ | refine Ev_skip ?_ | refine Ev_ret ?_) | (show EvD _ _ [] _ _ _; refine W_nil ?_) | (show EvD _ _ (_ :: _) _ _ _; first | refine W_run tok ?_ ?_ (by simp (maxSteps := 1000000) (disch := omega) only [go_sem, wrap_i64_id]; with_reducible exact rfl) | refine W_callee ?_) | (show EvC _ _ _ _ _ _ _ _ _; refine W_con ?_ ?_) | (show RetQ _ _ (RP _ _) _ _; refine R_ret ?_ ?_) | (show FrzTo _ _ _ _; refine F_weak ?_) | refine Q_thenN ?_ | refine Q_thenR ?_ | refine Q_blkR ?_ | refine Q_rndR ?_ | fail)
     all_goals (try exact sd)
     all_goals (try refine F_done ?_)
     all_goals rfl
   ·rw [if_neg (fun h => hn h.1)]
    generalize scS S W L O f l a n i = t at *
    obtain ⟨out, ta, tn⟩ := t
    have f1 : out.length = i := f1
    have hn : ¬ tn ≤ 281474976710655 := hn
    repeat' (first | (show Ev _ (.region _ _ true) _ _; refine D_startA [9, 49, 51, 54, 65, 68, 99998] mix ?_) | (show DrD _ _ _ [] _ _ _ _; refine D_nil ?_; try dsimp only) | (show DrD _ EA _ (_ :: _) _ _ _ _; first | refine D_runLA tok ?_ ?_ (h := by intro R; simp (maxSteps := 1000000) (disch := omega) only [go_sem, wrap_i64_id]; with_reducible exact rfl)) | (show DrD _ _ _ (_ :: _) _ _ _ _; first | refine D_store tok ?_ ?_ | refine D_hold tok ?_ ?_) | (show Ev _ _ _ _; first | refine Ev_seq ?_ | refine W_reg ?_ | refine W_ifN ?_ | refine Ev_exit ?_ | refine Ev_ret ?_) | (show EvD _ _ [] _ _ _; refine W_nil ?_) | (show EvD _ _ (_ :: _) _ _ _; first | refine W_run tok ?_ ?_ (by simp (maxSteps := 1000000) (disch := omega) only [go_sem, wrap_i64_id]; with_reducible exact rfl)) | (show RetQ _ _ (RP _ _) _ _; refine R_ret ?_ ?_) | (show FrzTo _ _ _ _; refine F_row ?_) | refine Q_thenN ?_ | refine Q_thenE ?_ | refine Q_blkE ?_ | refine Q_rndE ?_ | fail)
    all_goals (try exact sd)
    all_goals (try refine F_done ?_)
    all_goals rfl
 ·have hR : scanR S W L O f l a n = ([], zeroL, 1) := by unfold scanR; rw [if_pos hm]
  rw [hR]
  repeat' (first | (show Ev _ _ _ _; first | refine Ev_seq ?_ | refine W_reg ?_ | refine W_ifY ?_ | refine Ev_ret ?_) | (show EvD _ _ [] _ _ _; refine W_nil ?_) | (show EvD _ _ (_ :: _) _ _ _; first | refine W_run tok ?_ ?_ (by simp (maxSteps := 1000000) (disch := omega) only [go_sem, wrap_i64_id]; with_reducible exact rfl) | refine W_callee ?_) | (show EvC _ _ _ _ _ _ _ _ _; refine W_con ?_ ?_) | (show RetQ _ _ (RP _ _) _ _; refine R_ret ?_ ?_) | (show FrzTo _ _ _ _; refine F_weak ?_) | refine Q_thenN ?_ | refine Q_thenR ?_ | fail)
  all_goals (try exact sd)
  all_goals (try refine F_done ?_)
  all_goals rfl
instance i_wal_Scan (S : List (List UInt8)) (W : List (Int × List UInt8)) (L : Int) (O : Bool) (f l a n : Int) : Con Try.prog 21 [diskD S W L O, logD f l a n] (szP S W) (.tup [.sl (pends (scanR S W L O f l a n).1), lgD (scanR S W L O f l a n).2.1, .int .i64 (scanR S W L O f l a n).2.2]) := ⟨c_wal_Scan S  W  L  O  f l a n ⟩
end Go.Val.Ytlfnmgmbmgacgaa
