/- Chapter 06: all that a log has, with its own row, walked. -/
import Derived.Test.YtlfnmgmbmgacgaaY06m
import Derived.Test.YtlfnmgmbmgacgaaVM8
namespace Go.Val.Ytlfnmgmbmgacgaa
open Go Go.Val Go.Proofs Go.Proofs.Ytlfnmgmbmgacgaa
attribute [local irreducible] Ev EvD EvC thenQ blockQ RoundG RetQ
set_option maxRecDepth 100000
set_option maxHeartbeats 4000000
set_option linter.unusedSimpArgs false
set_option linter.unusedVariables false
theorem cx_wal_Scan (S : List (List UInt8)) (W : List (Int × List UInt8)) (L : Int) (O : Bool) (f l a n : Int) (hC : szP S W ∧ mayL S W L f l a n ∧ (scanR S W L O f l a n).2.2 = 0) : ∀ σ : Store, Does Try.prog n_wal_Scan [diskD S W L O, logD f l a n] σ (one ((.tup [.row 0 (scanR S W L O f l a n).1.length, lgD (scanR S W L O f l a n).2.1, .int .i64 0] : DV).ren (σ.rows.length + ·) (σ.boxes.length + ·) (σ.maps.length + ·)) (σ.plus [⟨pends (scanR S W L O f l a n).1, 46, 2⟩] [] [])) := by
 refine FxT.go tok (rv := [.tmp 4, .cell 5 27, .tmp 6]) [diskD S W L O, logD f l a n, .undef, .undef, .undef, .undef, .undef, .undef, .undef, .undef, .undef, .undef, .undef, .undef, .undef, .undef, .undef, .undef, .undef, .undef, .undef, .undef, .undef, .undef, .undef, .undef, .undef, .undef, .undef, .undef, .undef, .undef, .undef, .undef, .undef, .undef, .undef, .undef, .undef, .undef, .undef, .undef, .undef, .undef, .undef, .undef, .undef, .undef, .undef, .undef, .undef] Try.func21 (fun σ => ?_)
 obtain ⟨hC, hm, hE0⟩ := hC
 ·obtain ⟨h1, h2, h3, h4, h5, h6, h7, h8, h9⟩ := id hm
  have h1S := h1.1
  obtain ⟨N, hN⟩ : ∃ N, N = scN S W L O f l a n := ⟨_, rfl⟩
  have hNle : N ≤ S.length + 1 := by rw [hN]; exact firstN_le _ _
  have hNlt : ∀ j, j < N → stopS S W L O f l a n j = false := fun j hj => by rw [hN] at hj; exact firstN_lt hj
  have hfac := fun i (hi : i ≤ N) => sc_facts (S := S) (W := W) (L := L) (O := O) (f := f) (l := l) (a := a) (n := n) h2 (by omega) i (fun j hj => hNlt j (by omega))
  have hNS : N ≤ S.length := by
   rcases Nat.lt_or_ge S.length N with h | h
   ·exfalso
    obtain ⟨f1, f2, f3, f4⟩ := hfac S.length (by omega)
    obtain ⟨k1, k2, k3⟩ := stop_no (hNlt S.length h)
    obtain ⟨p1, p2, p3⟩ := nx_pos k2 k3
    omega
   ·exact h
  have hNeq : stopS S W L O f l a n N = true := by
   have h : firstN (S.length + 1) (stopS S W L O f l a n) < S.length + 1 := by
    have h' : scN S W L O f l a n < S.length + 1 := by omega
    exact h'
   have := firstN_eq h
   rw [hN]; exact this
  have hR : scanR S W L O f l a n = if (scS S W L O f l a n N).2.2 ≤ 281474976710655 ∧ (nextR S W L O f l (scS S W L O f l a n N).2.1 (scS S W L O f l a n N).2.2).2.2 ≠ 0 then ([], zeroL, (nextR S W L O f l (scS S W L O f l a n N).2.1 (scS S W L O f l a n N).2.2).2.2) else ((scS S W L O f l a n N).1, (f, l, (scS S W L O f l a n N).2.1, (scS S W L O f l a n N).2.2), 0) := by
   rw [hN]; unfold scanR; rw [if_neg (by simp [hm])]
  rw [hR] at hE0 ⊢
  clear hR hN
  have hno : ¬ ((scS S W L O f l a n N).2.2 ≤ 281474976710655 ∧ (nextR S W L O f l (scS S W L O f l a n N).2.1 (scS S W L O f l a n N).2.2).2.2 ≠ 0) := by
   intro h
   rw [if_pos h] at hE0
   exact h.2 hE0
  rw [if_neg hno] at hE0 ⊢
  clear hE0
  repeat' (first | (show Ev _ _ _ _; first | refine Ev_seq ?_ | refine W_reg ?_ | refine Ev_block ?_ | refine W_ifN ?_ | refine Ev_skip ?_) | (show EvD _ _ [] _ _ _; refine W_nil ?_) | (show EvD _ _ (_ :: _) _ _ _; first | refine W_run tok ?_ ?_ (by simp (maxSteps := 1000000) (disch := omega) only [go_sem, wrap_i64_id]; with_reducible exact rfl) | refine W_callee ?_) | (show EvC _ _ _ _ _ _ _ _ _; refine W_con ?_ ?_) | refine Q_thenN ?_ | fail)
  all_goals (try exact sd)
  all_goals (try refine F_done ?_)
  refine Ev_seed 7 46 2 rfl (by decide) (by simp only [List.set_cons_succ, List.set_cons_zero]; exact rfl) ?_
  refine Ev_lp (N) (fun i => [(7, .row σ.rows.length (scS S W L O f l a n i).1.length)]) (fun i => ⟨σ.rows ++ [some ⟨pends (scS S W L O f l a n i).1, 46, 2⟩], σ.boxes ++ [some ⟨25, [.sl (secs S), .sl (pends W), .int .i64 L, .bool O]⟩, some ⟨27, [.int .i64 f, .int .i64 l, .int .i64 (scS S W L O f l a n i).2.1, .int .i64 (scS S W L O f l a n i).2.2]⟩, some ⟨27, [.int .i64 0, .int .i64 0, .int .i64 0, .int .i64 0]⟩], σ.maps⟩) [4, 6, 8, 9, 10, 16, 17, 18, 19, 20, 21, 22, 23, 24, 25, 26, 27, 28, 29, 30, 31, 32, 33, 34, 35, 36, 37, 38, 39, 40, 41, 42, 43, 44, 45, 46, 47, 48] ?_ (by simp [scS, pends]) (fun i hi => ?_)
  ·exact le1
  obtain ⟨f1, f2, f3, f4⟩ := hfac i hi
  have hs1 : scS S W L O f l a n (i + 1) = ((scS S W L O f l a n i).1 ++ [(nextR S W L O f l (scS S W L O f l a n i).2.1 (scS S W L O f l a n i).2.2).1], (scS S W L O f l a n i).2.1 + (nextR S W L O f l (scS S W L O f l a n i).2.1 (scS S W L O f l a n i).2.2).2.1, (scS S W L O f l a n i).2.2 + 1) := rfl
  have iX := i_wal_next S W L O f l (scS S W L O f l a n i).2.1 (scS S W L O f l a n i).2.2
  by_cases hi' : i < N
  ·obtain ⟨k1, k2, k3⟩ := stop_no (hNlt i hi')
   obtain ⟨p1, p2, p3⟩ := nx_pos k2 k3
   generalize nextR S W L O f l (scS S W L O f l a n i).2.1 (scS S W L O f l a n i).2.2 = r at *
   obtain ⟨⟨rs, rd⟩, rk, re⟩ := r
   simp only at k2 k3 p1 p2
   subst k2
   generalize scS S W L O f l a n i = t at *
   obtain ⟨out, ta, tn⟩ := t
   have f1 : out.length = i := f1
   have f2 : tn = n + i := f2
   have f3 : a + i ≤ ta := f3
   have f4 : ta ≤ S.length + 100 := f4
   have k1 : tn ≤ 281474976710655 := k1
   have hs1 : scS S W L O f l a n (i + 1) = (out ++ [(rs, rd)], ta + rk, tn + 1) := hs1
   have iX : Con Try.prog 42 [diskD S W L O, logD f l ta tn] True (.tup [frameD rs rd, .int .i64 rk, .int .i64 0]) := con_eq iX ⟨hC, by omega, by omega, by omega, by omega, by omega⟩ rfl
   repeat' (first | (show Ev _ _ _ _; first | refine Ev_seq ?_ | refine W_reg ?_ | refine Ev_block ?_ | refine W_ifF ?_ | refine W_ifY ?_ | refine W_ifN ?_ | refine Ev_skip ?_) | (show EvD _ _ [] _ _ _; refine W_nil ?_) | (show EvD _ _ (_ :: _) _ _ _; first | refine W_run tok ?_ ?_ (by simp (maxSteps := 1000000) (disch := omega) only [go_sem, wrap_i64_id, pends_snoc2]; with_reducible exact rfl) | refine W_callee ?_) | (show EvC _ _ _ _ _ _ _ _ _; refine W_con ?_ ?_) | refine Q_thenN ?_ | refine Q_blkN ?_ | fail)
   all_goals (try exact sd)
   all_goals (try refine F_done ?_)
   refine Q_rndC (Rb := σ.rows) (A := σ.boxes) (Mb := σ.maps) (R := ((fun i => [some ⟨pends (scS S W L O f l a n i).1, 46, 2⟩]) (i))) (R' := ((fun i => [some ⟨pends (scS S W L O f l a n i).1, 46, 2⟩]) (i + 1))) (B := ((fun i => [some ⟨25, [.sl (secs S), .sl (pends W), .int .i64 L, .bool O]⟩, some ⟨27, [.int .i64 f, .int .i64 l, .int .i64 (scS S W L O f l a n i).2.1, .int .i64 (scS S W L O f l a n i).2.2]⟩, some ⟨27, [.int .i64 0, .int .i64 0, .int .i64 0, .int .i64 0]⟩]) (i))) (B' := ((fun i => [some ⟨25, [.sl (secs S), .sl (pends W), .int .i64 L, .bool O]⟩, some ⟨27, [.int .i64 f, .int .i64 l, .int .i64 (scS S W L O f l a n i).2.1, .int .i64 (scS S W L O f l a n i).2.2]⟩, some ⟨27, [.int .i64 0, .int .i64 0, .int .i64 0, .int .i64 0]⟩]) (i + 1))) (M := []) (M' := []) ?_ (by omega) (by first | rfl | simp only [List.append_nil]) (by first | rfl | simp only [List.append_nil]) (by first | ((try simp only [List.append_nil, List.cons_append, List.nil_append, List.append_assoc, hs1]) <;> exact rfl) | exact (List.append_nil _).symm) (by first | ((try simp only [List.append_nil, List.cons_append, List.nil_append, List.append_assoc, hs1]) <;> exact rfl) | exact (List.append_nil _).symm) (by first | ((try simp only [List.append_nil, List.cons_append, List.nil_append, List.append_assoc, hs1]) <;> exact rfl) | exact (List.append_nil _).symm) (by simp) (by simp) (by simp) (by simp [nameds, DV.named, bytes_named, nameds_append, pends_named, secs_named] <;> omega) (by repeat (first | exact allN_nil _ | refine allN_none ?_ | refine allN_some (by first | exact bytes_named _ _ _ _ | (simp [nameds, DV.named, bytes_named, nameds_append, pends_named, secs_named] <;> omega)) ?_)) (by repeat (first | exact allN_nil _ | refine allN_none ?_ | refine allN_some (by first | exact bytes_named _ _ _ _ | (simp [nameds, DV.named, bytes_named, nameds_append, pends_named, secs_named] <;> omega)) ?_)) (by simp)
   repeat (first | exact LeL.nil | refine LeL.cons2 ?_ (Le.undef _) | refine LeL.cons2 ?_ (Le.refl _) | refine LeL.cons2 ?_ (Le.sl _) | refine LeL.cons2 ?_ (Le.eq (by first | rfl | exact congrArg _ (by omega))) | refine LeL.cons2 ?_ (Le.eq ?_))
   all_goals (first | (rw [hs1]; simp; done) | skip)
  ·obtain rfl : i = N := by omega
   clear hi'
   by_cases hn : (scS S W L O f l a n i).2.2 ≤ 281474976710655
   ·have he : (nextR S W L O f l (scS S W L O f l a n i).2.1 (scS S W L O f l a n i).2.2).2.2 = 0 := Classical.not_not.1 fun h => hno ⟨hn, h⟩
    have hk : (nextR S W L O f l (scS S W L O f l a n i).2.1 (scS S W L O f l a n i).2.2).2.1 = 0 := by
     have h := hNeq
     unfold stopS at h
     rw [decide_eq_true hn, decide_eq_true he] at h
     simpa using h
    clear hno
    generalize nextR S W L O f l (scS S W L O f l a n i).2.1 (scS S W L O f l a n i).2.2 = r at *
    obtain ⟨⟨rs, rd⟩, rk, re⟩ := r
    have he : re = 0 := he
    have hk : rk = 0 := hk
    subst he; subst hk
    generalize scS S W L O f l a n i = t at *
    obtain ⟨out, ta, tn⟩ := t
    have f1 : out.length = i := f1
    have f2 : tn = n + i := f2
    have f3 : a + i ≤ ta := f3
    have f4 : ta ≤ S.length + 100 := f4
    have hn : tn ≤ 281474976710655 := hn
    have hpl := pends_len out
    have iX : Con Try.prog 42 [diskD S W L O, logD f l ta tn] True (.tup [frameD rs rd, .int .i64 0, .int .i64 0]) := con_eq iX ⟨hC, by omega, by omega, by omega, by omega, by omega⟩ rfl
    repeat' (first | (show Ev _ (.region _ _ true) _ _; refine D_startA [9, 21, 49, 51, 54, 65, 68, 99998] mix ?_) | (show DrD _ _ _ [] _ _ _ _; refine D_nil ?_; try dsimp only) | (show DrD _ EA _ (_ :: _) _ _ _ _; first | refine D_runLA tok ?_ ?_ (h := by intro R; simp (maxSteps := 1000000) (disch := omega) only [go_sem, wrap_i64_id, hpl]; with_reducible exact rfl)) | (show DrD _ _ _ (_ :: _) _ _ _ _; first | refine D_store tok ?_ ?_ | refine D_hold tok ?_ ?_) | (show Ev _ _ _ _; first | refine Ev_seq ?_ | refine W_reg ?_ | refine Ev_block ?_ | refine W_ifT ?_ | refine W_ifF ?_ | refine W_ifY ?_ | refine Ev_skip ?_ | refine Ev_ret ?_) | (show EvD _ _ [] _ _ _; refine W_nil ?_) | (show EvD _ _ (_ :: _) _ _ _; first | refine W_run tok ?_ ?_ (by simp (maxSteps := 1000000) (disch := omega) only [go_sem, wrap_i64_id, hpl]; with_reducible exact rfl) | refine W_callee ?_) | (show EvC _ _ _ _ _ _ _ _ _; refine W_con ?_ ?_) | (show RetQ _ _ (RX _ _ _ [_] [] []) _ _; refine R_xr ?_ (by intro p q s hp; simp only [DV.ren, rens, hp]; exact rfl) ?_) | refine Q_thenN ?_ | refine Q_thenR ?_ | refine Q_blkR ?_ | refine Q_rndR ?_ | fail)
    all_goals (try exact sd)
    all_goals (try refine F_done ?_)
    all_goals first | rfl | trace_state
   ·clear hno
    generalize scS S W L O f l a n i = t at *
    obtain ⟨out, ta, tn⟩ := t
    have f1 : out.length = i := f1
    have hn : ¬ tn ≤ 281474976710655 := hn
    have hpl := pends_len out
    repeat' (first | (show Ev _ (.region _ _ true) _ _; refine D_startA [9, 21, 49, 51, 54, 65, 68, 99998] mix ?_) | (show DrD _ _ _ [] _ _ _ _; refine D_nil ?_; try dsimp only) | (show DrD _ EA _ (_ :: _) _ _ _ _; first | refine D_runLA tok ?_ ?_ (h := by intro R; simp (maxSteps := 1000000) (disch := omega) only [go_sem, wrap_i64_id, hpl]; with_reducible exact rfl)) | (show DrD _ _ _ (_ :: _) _ _ _ _; first | refine D_store tok ?_ ?_ | refine D_hold tok ?_ ?_) | (show Ev _ _ _ _; first | refine Ev_seq ?_ | refine W_reg ?_ | refine W_ifN ?_ | refine Ev_exit ?_ | refine Ev_ret ?_) | (show EvD _ _ [] _ _ _; refine W_nil ?_) | (show EvD _ _ (_ :: _) _ _ _; first | refine W_run tok ?_ ?_ (by simp (maxSteps := 1000000) (disch := omega) only [go_sem, wrap_i64_id, hpl]; with_reducible exact rfl)) | (show RetQ _ _ (RX _ _ _ [_] [] []) _ _; refine R_xr ?_ (by intro p q s hp; simp only [DV.ren, rens, hp]; exact rfl) ?_) | refine Q_thenN ?_ | refine Q_thenE ?_ | refine Q_blkE ?_ | refine Q_rndE ?_ | fail)
    all_goals (try exact sd)
    all_goals (try refine F_done ?_)
    all_goals first | rfl | trace_state
instance ix_wal_Scan (S : List (List UInt8)) (W : List (Int × List UInt8)) (L : Int) (O : Bool) (f l a n : Int) : ConT Try.prog 21 [diskD S W L O, logD f l a n] (szP S W ∧ mayL S W L f l a n ∧ (scanR S W L O f l a n).2.2 = 0) (.tup [.row 0 (scanR S W L O f l a n).1.length, lgD (scanR S W L O f l a n).2.1, .int .i64 0]) ([⟨pends (scanR S W L O f l a n).1, 46, 2⟩]) ([]) ([]) := ⟨cx_wal_Scan S  W  L  O  f l a n ⟩
end Go.Val.Ytlfnmgmbmgacgaa
