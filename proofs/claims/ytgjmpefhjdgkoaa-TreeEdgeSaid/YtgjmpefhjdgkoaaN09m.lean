/- Chapter 09: the statement of a tree's edge, walked. -/
import Derived.Test.YtgjmpefhjdgkoaaN09l
namespace Go.Val.Ytgjmpefhjdgkoaa
open Go Go.Val Go.Proofs Go.Proofs.Ytgjmpefhjdgkoaa
attribute [local irreducible] Ev EvD EvC thenQ blockQ RoundG RetQ
set_option maxRecDepth 100000
set_option maxHeartbeats 4000000
set_option linter.unusedSimpArgs false
set_option linter.unusedVariables false
attribute [go_sem] Dm_len Dq_len
theorem c_bursarlaw09_TreeEdge (n : Nat) (hC : n ≤ 65535) : Pure Try.prog n_bursarlaw09_TreeEdge [.int .u16 (n : Int)] (.bool true) := by
 refine Pure.go tok (rs := [.tmp 2]) [.int .u16 (n : Int), .undef, .undef, .undef, .undef, .undef, .undef, .undef, .undef, .undef, .undef, .undef, .undef, .undef, .undef, .undef, .undef, .undef, .undef, .undef, .undef, .undef, .undef, .undef, .undef, .undef, .undef, .undef, .undef, .undef, .undef, .undef, .undef, .undef, .undef, .undef, .undef, .undef, .undef, .undef, .undef, .undef, .undef, .undef, .undef, .undef, .undef, .undef, .undef, .undef, .undef, .undef, .undef, .undef, .undef, .undef, .undef, .undef, .undef, .undef, .undef, .undef, .undef, .undef, .undef, .undef, .undef, .undef, .undef, .undef, .undef, .undef, .undef, .undef, .undef, .undef, .undef, .undef, .undef, .undef, .undef, .undef, .undef, .undef, .undef, .undef, .undef, .undef, .undef, .undef, .undef, .undef, .undef, .undef, .undef, .undef, .undef, .undef, .undef, .undef, .undef, .undef, .undef, .undef, .undef, .undef, .undef, .undef, .undef, .undef, .undef, .undef, .undef, .undef, .undef, .undef, .undef, .undef, .undef, .undef, .undef, .undef, .undef, .undef, .undef, .undef, .undef, .undef, .undef, .undef, .undef, .undef, .undef, .undef, .undef, .undef, .undef, .undef, .undef, .undef, .undef, .undef, .undef, .undef, .undef] Try.func4 (fun σ => ?_)
 obtain ⟨k, hk⟩ : ∃ k, k = n % 900 := ⟨_, rfl⟩
 have hk9 : k ≤ 899 := by omega
 have hr : Int.tmod (n : Int) 900 = (k : Int) := by rw [hk]; rfl
 have hmay := edge_may hk9
 have hlen := edgeP_len k
 have hc1 := nL_pos k
 have hc6 := nL_le (show k ≤ 3000 by omega)
 have iB : Con Try.prog 13 [.sl (pairsD (edgeP k))] True (.tup [.sl (nodesD (bldR (edgeP k)).1), .int .i64 (bldR (edgeP k)).2]) := ⟨fun _ => Pure_ans (c_tree_Build _ (by rw [hlen]; omega)) (bldX_le _)⟩
 have iP : Con Try.prog 16 [.int .i64 (k : Int)] True (.int .i64 (pagesT k : Nat)) := ⟨fun _ => by
  have h := c_tree_Pages (k : Int) (by omega)
  rwa [Int.toNat_natCast] at h⟩
 have iD : Con Try.prog 18 [.int .i64 (k : Int)] True (.int .i64 (depthT k : Nat)) := ⟨fun _ => by
  have h := c_tree_Depth (k : Int) (by omega)
  rwa [Int.toNat_natCast] at h⟩
 have hbl : bldR (edgeP k) = if 200 < pagesT k then ([], 9) else (bldT (edgeP k), 0) := by unfold bldR; rw [if_neg (by rw [hmay]; simp), hlen]
 have hpage := page_of (edgeP k)
 have hbT : (bldT (edgeP k)).length = sumL (nL k) (rdC (nL k)) := by unfold bldT; rw [bst_all, hlen]
 rw [hlen] at hpage
 repeat' (first | (show Ev _ _ _ _; first | refine Ev_seq ?_ | refine W_reg ?_ | refine Ev_block ?_) | (show EvD _ _ [] _ _ _; refine W_nil ?_) | (show EvD _ _ (_ :: _) _ _ _; first | refine W_run tok ?_ ?_ (by simp (maxSteps := 1000000) (disch := omega) only [go_sem, wrap_i64_id, hr]; with_reducible exact rfl)) | refine Q_thenN ?_ | fail)
 all_goals (try exact sd)
 all_goals (try refine F_done ?_)
 refine Ev_seed 4 39 2 rfl (by decide) (by simp only [List.set_cons_succ, List.set_cons_zero]; exact rfl) ?_
 refine Ev_lp (k) (fun i => [(4, .row σ.rows.length i), (5, i64 i)]) (fun i => ⟨σ.rows ++ [some ⟨pairsD (edgeP i), 39, 2⟩], σ.boxes, σ.maps⟩) [15, 16, 17, 18, 19, 20, 21, 22, 23, 24, 25, 26, 27, 28, 29, 30, 31, 32, 33] ?_ (by simp [edgeP, pairsD]) (fun i hi => ?_)
 ·exact le1
 have hml := edgeP_len i
 have hml2 := (pairsD_len (edgeP i)).trans hml
 by_cases hi' : i < k
 ·have hq : Int.tdiv (i : Int) 250 = ((i / 250 : Nat) : Int) := rfl
  have hr2 : Int.tmod (i : Int) 250 = ((i % 250 : Nat) : Int) := rfl
  have ea : (1 : Int) + ((i / 250 : Nat) : Int) = ((1 + i / 250 : Nat) : Int) := by omega
  have eb : (1 : Int) + ((i % 250 : Nat) : Int) = ((1 + i % 250 : Nat) : Int) := by omega
  have wa := u8_nat (k := 1 + i / 250) (by omega)
  have wb := u8_nat (k := 1 + i % 250) (by omega)
  have hs := edgeP_snoc i
  repeat' (first | (show Ev _ _ _ _; first | refine Ev_seq ?_ | refine W_reg ?_ | refine Ev_block ?_ | refine W_ifY ?_ | refine Ev_skip ?_) | (show EvD _ _ [] _ _ _; refine W_nil ?_) | (show EvD _ _ (_ :: _) _ _ _; first | refine W_run tok ?_ ?_ (by simp (maxSteps := 1000000) (disch := omega) only [go_sem, wrap_i64_id, hq, hr2, ea, eb, wa, wb]; with_reducible exact rfl)) | refine Q_thenN ?_ | refine Q_blkN ?_ | fail)
  all_goals (try exact sd)
  all_goals (try refine F_done ?_)
  ·refine Q_rndC (Rb := σ.rows) (A := σ.boxes) (Mb := σ.maps) (R := ((fun i => [some ⟨pairsD (edgeP i), 39, 2⟩]) (i))) (R' := ((fun i => [some ⟨pairsD (edgeP i), 39, 2⟩]) (i + 1))) (B := []) (B' := []) (M := []) (M' := []) ?_ (by omega) (by first | rfl | simp only [List.append_nil]) (by first | rfl | simp only [List.append_nil]) (by first | ((try simp only [List.append_nil, List.cons_append, List.nil_append, List.append_assoc, hs]) <;> exact rfl) | exact (List.append_nil _).symm) (by first | ((try simp only [List.append_nil, List.cons_append, List.nil_append, List.append_assoc, hs]) <;> exact rfl) | exact (List.append_nil _).symm) (by first | ((try simp only [List.append_nil, List.cons_append, List.nil_append, List.append_assoc, hs]) <;> exact rfl) | exact (List.append_nil _).symm) (by simp) (by simp) (by simp) (by simp [nameds, DV.named, bytes_named, nameds_append, pairsD_named] <;> omega) (by repeat (first | exact allN_nil _ | refine allN_none ?_ | refine allN_some (by first | exact bytes_named _ _ _ _ | (simp [nameds, DV.named, bytes_named, nameds_append, pairsD_named] <;> omega)) ?_)) (by repeat (first | exact allN_nil _ | refine allN_none ?_ | refine allN_some (by first | exact bytes_named _ _ _ _ | (simp [nameds, DV.named, bytes_named, nameds_append, pairsD_named] <;> omega)) ?_)) (by simp)
   repeat (first | exact LeL.nil | refine LeL.cons2 ?_ (Le.undef _) | refine LeL.cons2 ?_ (Le.refl _) | refine LeL.cons2 ?_ (Le.sl _) | refine LeL.cons2 ?_ (Le.eq (by first | rfl | exact congrArg _ (by omega))) | refine LeL.cons2 ?_ (Le.eq ?_))
  all_goals trace_state
 ·obtain rfl : i = k := by omega
  by_cases h9 : 200 < pagesT i
  ·rw [hbl, if_pos h9] at iB
   have hpb : pagesT i ≤ 3000 := by
    have := sumL_le hc6 (rdC (nL i)); have := rdC_le (nL i); show sumL (nL i) _ ≤ _; omega
   generalize pagesT i = pg at iP h9 hpb
   simp only [nodesD, List.map_nil] at iB
   repeat' (first | (show Ev _ _ _ _; first | refine Ev_seq ?_ | refine W_reg ?_ | refine W_ifY ?_ | refine W_ifN ?_ | refine Ev_exit ?_ | refine Ev_ret ?_) | (show EvD _ _ [] _ _ _; refine W_nil ?_) | (show EvD _ _ (_ :: _) _ _ _; first | refine W_run tok ?_ ?_ (by simp (maxSteps := 1000000) (disch := omega) only [go_sem, wrap_i64_id]; with_reducible exact rfl) | refine W_callee ?_) | (show EvC _ _ _ _ _ _ _ _ _; first | refine W_con ?_ ?_ | refine W_frzArg ?_) | (show RetQ _ _ (RP _ _) _ _; refine R_ret ?_ ?_) | refine Q_thenN ?_ | refine Q_thenE ?_ | refine Q_thenR ?_ | refine Q_blkE ?_ | refine Q_rndE ?_ | fail)
   all_goals (try exact sd)
   all_goals (try refine F_done ?_)
   all_goals first | rfl | trace_state
  ·rw [hbl, if_neg h9] at iB
   have hpT : pagesT i = sumL (nL i) (rdC (nL i)) := rfl
   have hdT : depthT i = rdC (nL i) + 1 := by unfold depthT; omega
   have hroot := D_root hc1 hc6
   obtain ⟨_, _, hT1⟩ := dep_root hc1 hc6
   obtain ⟨c, hc⟩ : ∃ c, c = nL i := ⟨_, rfl⟩
   rw [← hc] at hpage hbT hroot hT1 hpT hdT hc1 hc6
   obtain ⟨T, hT⟩ : ∃ T, T = sumL c (rdC c) := ⟨_, rfl⟩
   rw [← hT] at hpage hbT hroot hT1 hpT
   rw [hpT] at h9 iP
   have hR4 := rdC_le c
   obtain ⟨N, hN⟩ : ∃ N, N = bldT (edgeP i) := ⟨_, rfl⟩
   rw [← hN] at hpage hbT iB
   have hNl := (nodesD_len N).trans hbT
   have hpg : ∀ q, q < T → ∃ A B C, (nodesD N).getD q .undef = nodeD A B C ∧ PageQ c q C := by
    intro q hq
    obtain ⟨A, B, C, h1, h2⟩ := hpage q hq
    refine ⟨A, B, C, ?_, h2⟩
    rw [nodesD, List.getD_eq_getElem?_getD, List.getElem?_map, h1]; rfl
   have hz := zrepI T
   have hks := kidsD_set
   have eT : ((T : Int) - 1).toNat = T - 1 := by omega
   have hz0 : (kidsD (List.replicate T 0)).getD (T - 1) .undef = .int .i64 0 := by
    simp [kidsD, List.getD_eq_getElem?_getD, List.getElem?_map, List.getElem?_replicate, (by omega : T - 1 < T)]
   have rr : decide (((depthT i : Nat) : Int) = ((depthT i : Nat) : Int)) = true := decide_eq_true rfl
   repeat' (first | (show Ev _ _ _ _; first | refine Ev_seq ?_ | refine W_reg ?_ | refine Ev_block ?_ | refine W_ifN ?_ | refine Ev_skip ?_ | refine Ev_exit ?_) | (show EvD _ _ [] _ _ _; refine W_nil ?_) | (show EvD _ _ (_ :: _) _ _ _; first | refine W_run tok ?_ ?_ (by simp (maxSteps := 1000000) (disch := omega) only [go_sem, wrap_i64_id, hNl, hz, eT, hz0, hks, hroot, DV.over, List.headD_cons]; with_reducible exact rfl) | refine W_callee ?_) | (show EvC _ _ _ _ _ _ _ _ _; first | refine W_con ?_ ?_ | refine W_frzArg ?_) | refine Q_thenN ?_ | refine Q_thenE ?_ | refine Q_blkE ?_ | refine Q_rndE ?_ | fail)
   all_goals (try exact sd)
   all_goals (try refine F_done ?_)
   refine Ev_lp (T) (fun t => [(9, .int .i64 ((T : Int) - 1 - (t : Int)))]) (fun t => ⟨σ.rows ++ [none, some ⟨kidsD (Dq c T (T - t)), 3, 1⟩], σ.boxes, σ.maps⟩) [2, 10, 11, 77, 78, 79, 80, 81, 82, 83, 84, 85, 86, 87, 88, 89, 90, 91, 92, 93, 94, 95, 96, 97, 98, 99, 100, 101, 102, 103, 104, 105, 106, 107, 108, 109, 110, 111, 112, 113, 114, 115, 116, 117, 118, 119, 120, 121, 122, 123, 124, 125, 126, 127, 128, 129, 130, 131, 132, 133, 134, 135, 136, 137, 138, 139, 140, 141, 142, 143] ?_ (by simp) (fun t hi => ?_)
   ·exact le1
   by_cases ht' : t < T
   ·obtain ⟨q, hq⟩ : ∃ q, q = T - 1 - t := ⟨_, rfl⟩
    obtain ⟨A, B, C, hg, pq⟩ := hpg q (by omega)
    obtain ⟨p1, p2, p3, p4, ⟨p5, p6⟩, p7⟩ := pq
    have eqI : (T : Int) - 1 - (t : Int) = (q : Int) := by omega
    have hD : Dq c T (T - t) = Dm c T q 0 := by rw [Dm_zero, show q + 1 = T - t by omega]
    have hD2 : Dq c T (T - (t + 1)) = Dm c T q C.length := by rw [p3, Dm_all c T q p1, show T - (t + 1) = q by omega]
    have hgq := fun j => Dm_getQ (c := c) (T := T) (q := q) (j := j) (p := q) (by omega) (.inl p2)
    have hg0 := hgq 0
    have fz : decide ((dep c q : Int) = 0) = false := decide_eq_false (by omega)
    have hCl := kidsD_len C
    have hCT : C.length ≤ T := by omega
    have hT9 : T ≤ 200 := by omega
    rw [hD, eqI]
    by_cases hC0 : C.length = 0
    ·have hl := p7 hC0
     rw [hdT] at rr iD
     have fl : ((dep c q : Nat) : Int) = ((rdC c + 1 : Nat) : Int) := by rw [hl]
     have f0 : decide ((C.length : Int) = 0) = true := decide_eq_true (by omega)
     repeat' (first | (show Ev _ (.region _ _ true) _ _; refine D_startE [50, 51, 76, 78, 82, 90, 92] mix ?_) | (show DrD _ _ _ [] _ _ _ _; refine D_nil ?_; try dsimp only) | (show DrD _ _ _ (⟨_, _, _, _, _, some _⟩ :: _) _ _ _ _; refine D_grdN ?_) | (show DrD _ (ES _) _ (_ :: _) _ _ _ _; first | refine D_runLE tok ?_ ?_ (h := by simp (maxSteps := 1000000) (disch := omega) only [go_sem, wrap_i64_id, hNl, hg, hg0, fz, f0, fl, rr]; with_reducible exact rfl)) | (show DrD _ _ _ (_ :: _) _ _ _ _; refine D_con ?_ ?_) | (show Ev _ _ _ _; first | refine Ev_seq ?_ | refine W_reg ?_ | refine Ev_block ?_ | refine W_ifT ?_ | refine W_ifF ?_ | refine Ev_skip ?_) | (show EvD _ _ [] _ _ _; refine W_nil ?_) | (show EvD _ _ (_ :: _) _ _ _; first | refine W_run tok ?_ ?_ (by simp (maxSteps := 1000000) (disch := omega) only [go_sem, wrap_i64_id, hNl, hg, hg0, fz, f0, fl, rr]; with_reducible exact rfl)) | refine Q_thenN ?_ | fail)
     all_goals (try exact sd)
     all_goals (try refine F_done ?_)
     refine Ev_lp (0) (fun j => [(10, i64 j)]) (fun j => ⟨σ.rows ++ [none, some ⟨kidsD (Dm c T q 0), 3, 1⟩], σ.boxes, σ.maps⟩) [2, 11, 104, 105, 106, 107, 108, 109, 110, 111, 112, 113, 114, 115, 116, 117, 118, 119, 120, 121, 122, 123, 124, 125, 126, 127, 128, 129, 130, 131, 132, 133, 134, 135, 136, 137, 138, 139, 140, 141, 142, 143] ?_ (by rfl) (fun j hi => ?_)
     ·exact le1
     obtain rfl : j = 0 := by omega
     rw [hC0] at hD2
     repeat' (first | (show Ev _ _ _ _; first | refine Ev_seq ?_ | refine W_reg ?_ | refine W_ifN ?_ | refine Ev_exit ?_) | (show EvD _ _ [] _ _ _; refine W_nil ?_) | (show EvD _ _ (_ :: _) _ _ _; first | refine W_run tok ?_ ?_ (by simp (maxSteps := 1000000) (disch := omega) only [go_sem, wrap_i64_id, hNl, hg, f0]; with_reducible exact rfl)) | refine Q_thenN ?_ | refine Q_thenE ?_ | refine Q_blkN ?_ | refine Q_blkE ?_ | refine Q_rndE ?_ | fail)
     all_goals (try exact sd)
     all_goals (try refine F_done ?_)
     refine Q_rndN ?_ (by omega) ?_
     rotate_left
     ·rw [hD2]
     repeat (first | exact LeL.nil | refine LeL.cons2 ?_ (Le.undef _) | refine LeL.cons2 ?_ (Le.refl _) | refine LeL.cons2 ?_ (Le.sl _) | refine LeL.cons2 ?_ (Le.eq (by first | rfl | exact congrArg _ (by omega))) | refine LeL.cons2 ?_ (Le.eq ?_))
     all_goals trace_state
    ·have f0 : decide ((C.length : Int) = 0) = false := decide_eq_false (by omega)
     repeat' (first | (show Ev _ (.region _ _ true) _ _; refine D_startE [50, 51, 76, 78, 82, 90, 92] mix ?_) | (show DrD _ _ _ [] _ _ _ _; refine D_nil ?_; try dsimp only) | (show DrD _ (ES _) _ (_ :: _) _ _ _ _; first | refine D_runLE tok ?_ ?_ (h := by simp (maxSteps := 1000000) (disch := omega) only [go_sem, wrap_i64_id, hNl, hg, hg0, fz, f0]; with_reducible exact rfl)) | (show DrD _ _ _ (_ :: _) _ _ _ _; refine D_off ?_) | (show Ev _ _ _ _; first | refine Ev_seq ?_ | refine W_reg ?_ | refine Ev_block ?_ | refine W_ifT ?_ | refine W_ifF ?_ | refine Ev_skip ?_) | (show EvD _ _ [] _ _ _; refine W_nil ?_) | (show EvD _ _ (_ :: _) _ _ _; first | refine W_run tok ?_ ?_ (by simp (maxSteps := 1000000) (disch := omega) only [go_sem, wrap_i64_id, hNl, hg, hg0, fz, f0]; with_reducible exact rfl)) | refine Q_thenN ?_ | fail)
     all_goals (try exact sd)
     all_goals (try refine F_done ?_)
     refine Ev_lp (C.length) (fun j => [(10, i64 j)]) (fun j => ⟨σ.rows ++ [none, some ⟨kidsD (Dm c T q j), 3, 1⟩], σ.boxes, σ.maps⟩) [2, 11, 104, 105, 106, 107, 108, 109, 110, 111, 112, 113, 114, 115, 116, 117, 118, 119, 120, 121, 122, 123, 124, 125, 126, 127, 128, 129, 130, 131, 132, 133, 134, 135, 136, 137, 138, 139, 140, 141, 142, 143] ?_ (by rfl) (fun j hi => ?_)
     ·exact le1
     have hml3 := (kidsD_len (Dm c T q j)).trans (Dm_len c T q j)
     by_cases hj : j < C.length
     ·obtain ⟨k1, k2⟩ := p4 j hj
      obtain ⟨p, hp⟩ : ∃ p, p = th c q + j := ⟨_, rfl⟩
      have hgk : (kidsD C).getD j .undef = .int .i64 (p : Int) := by
       rw [hp, ← k1]
       simp [kidsD, List.getD_eq_getElem?_getD, List.getElem?_map, List.getElem?_eq_getElem hj]
      have hgN := Dm_getN (c := c) (T := T) (q := q) (j := j) (p := p) (by omega) (by omega)
      have hgQ := hgq j
      have hset : (Dm c T q j).set p ((dep c q : Int) + 1) = Dm c T q (j + 1) := by
       rw [← Dm_succ c T q j (by omega) (by omega), k2, hp]; rfl
      have f1 : decide ((p : Int) < 0) = false := decide_eq_false (by omega)
      have f2 : decide ((p : Int) ≥ (q : Int)) = false := decide_eq_false (by omega)
      repeat' (first | (show Ev _ _ _ _; first | refine Ev_seq ?_ | refine W_reg ?_ | refine Ev_block ?_ | refine W_ifF ?_ | refine W_ifY ?_ | refine Ev_skip ?_) | (show EvD _ _ [] _ _ _; refine W_nil ?_) | (show EvD _ _ (_ :: _) _ _ _; first | refine W_run tok ?_ ?_ (by simp (maxSteps := 1000000) (disch := omega) only [go_sem, wrap_i64_id, hNl, hg, hgk, hgN, hgQ, hks, hset, f1, f2, DV.over, List.headD_cons]; with_reducible exact rfl)) | refine Q_thenN ?_ | refine Q_blkN ?_ | fail)
      all_goals (try exact sd)
      all_goals (try refine F_done ?_)
      refine Q_rndN ?_ (by omega) ?_
      rotate_left
      ·rfl
      repeat (first | exact LeL.nil | refine LeL.cons2 ?_ (Le.undef _) | refine LeL.cons2 ?_ (Le.refl _) | refine LeL.cons2 ?_ (Le.sl _) | refine LeL.cons2 ?_ (Le.eq (by first | rfl | exact congrArg _ (by omega))) | refine LeL.cons2 ?_ (Le.eq ?_))
      all_goals trace_state
     ·obtain rfl : j = C.length := by omega
      repeat' (first | (show Ev _ _ _ _; first | refine Ev_seq ?_ | refine W_reg ?_ | refine W_ifN ?_ | refine Ev_exit ?_) | (show EvD _ _ [] _ _ _; refine W_nil ?_) | (show EvD _ _ (_ :: _) _ _ _; first | refine W_run tok ?_ ?_ (by simp (maxSteps := 1000000) (disch := omega) only [go_sem, wrap_i64_id, hNl, hg]; with_reducible exact rfl)) | refine Q_thenN ?_ | refine Q_thenE ?_ | refine Q_blkN ?_ | refine Q_blkE ?_ | refine Q_rndE ?_ | fail)
      all_goals (try exact sd)
      all_goals (try refine F_done ?_)
      refine Q_rndN ?_ (by omega) ?_
      rotate_left
      ·rw [hD2]
      repeat (first | exact LeL.nil | refine LeL.cons2 ?_ (Le.undef _) | refine LeL.cons2 ?_ (Le.refl _) | refine LeL.cons2 ?_ (Le.sl _) | refine LeL.cons2 ?_ (Le.eq (by first | rfl | exact congrArg _ (by omega))) | refine LeL.cons2 ?_ (Le.eq ?_))
      all_goals trace_state
   ·obtain rfl : t = T := by omega
    have eqI : (t : Int) - 1 - (t : Int) = -1 := by omega
    rw [eqI]
    repeat' (first | (show Ev _ _ _ _; first | refine Ev_seq ?_ | refine W_reg ?_ | refine W_ifN ?_ | refine Ev_exit ?_ | refine Ev_ret ?_) | (show EvD _ _ [] _ _ _; refine W_nil ?_) | (show EvD _ _ (_ :: _) _ _ _; first | refine W_run tok ?_ ?_ (by simp (maxSteps := 1000000) (disch := omega) only [go_sem, wrap_i64_id]; with_reducible exact rfl) | refine W_callee ?_) | (show EvC _ _ _ _ _ _ _ _ _; refine W_con ?_ ?_) | (show RetQ _ _ (RP _ _) _ _; refine R_ret ?_ ?_) | refine Q_thenN ?_ | refine Q_thenE ?_ | refine Q_blkE ?_ | refine Q_rndE ?_ | fail)
    all_goals (try exact sd)
    all_goals (try refine F_done ?_)
    all_goals first | rfl | trace_state
instance i_bursarlaw09_TreeEdge (n : Nat) : Con Try.prog 4 [.int .u16 (n : Int)] (n ≤ 65535) (.bool true) := ⟨c_bursarlaw09_TreeEdge n ⟩
end Go.Val.Ytgjmpefhjdgkoaa
