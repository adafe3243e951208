/- Chapter 09: the statement of a tree's ranges, walked. -/
import Derived.Test.YtgjmpefhjdgkoaaN09w
namespace Go.Val.Ytgjmpefhjdgkoaa
open Go Go.Val Go.Proofs Go.Proofs.Ytgjmpefhjdgkoaa
attribute [local irreducible] Ev EvD EvC thenQ blockQ RoundG RetQ
set_option maxRecDepth 100000
set_option maxHeartbeats 4000000
set_option linter.unusedSimpArgs false
set_option linter.unusedVariables false
def ltP (a b : PairB) : Prop := Op.bytesLess a.1 b.1 = true
theorem mayT_pw {P : List PairB} (h : mayT P = true) : P.Pairwise ltP := by
 rw [List.pairwise_iff_getElem]
 intro i j hi hj hij
 have := mayT_lt' h hij hj
 simpa [keyAt, ltP, List.getD_eq_getElem?_getD, List.getElem?_eq_getElem hi, List.getElem?_eq_getElem hj] using this
theorem rngP_cons (p : PairB) (P : List PairB) (f t : List UInt8) : rngP (p :: P) f t = if inR f t p = true then p :: rngP P f t else rngP P f t := by
 simp only [rngP, List.filter_cons]
theorem rng_split {f m : List UInt8} (hfm : Op.bytesLess m f = false) (hm : m ≠ []) : ∀ {P : List PairB}, P.Pairwise ltP → rngP P f m ++ rngP P m [] = rngP P f []
 | [], _ => rfl
 | p :: P, h => by
  rw [List.pairwise_cons] at h
  have ih := rng_split hfm hm h.2
  cases hp : Op.bytesLess p.1 m
  ·have hall : ∀ q ∈ p :: P, Op.bytesLess q.1 m = false := by
    intro q hq
    rcases List.mem_cons.1 hq with rfl | hq
    ·exact hp
    ·cases hqm : Op.bytesLess q.1 m
     ·rfl
     ·rw [ltB_trans (h.1 q hq) hqm] at hp; cases hp
   have hf : ∀ q ∈ p :: P, Op.bytesLess q.1 f = false := by
    intro q hq
    cases hqf : Op.bytesLess q.1 f
    ·rfl
    ·cases hmf : Op.bytesLess f m
     ·have := ltB_tri hmf hfm
      subst this
      rw [hall q hq] at hqf; cases hqf
     ·have := ltB_trans hqf hmf
      rw [hall q hq] at this; cases this
   have e1 : rngP (p :: P) f m = [] := by
    rw [rngP, List.filter_eq_nil_iff]
    intro q hq
    simp [inR, hall q hq, hm]
   have e2 : rngP (p :: P) m [] = p :: P := by
    rw [rngP, List.filter_eq_self]
    intro q hq
    simp [inR, hall q hq]
   have e3 : rngP (p :: P) f [] = p :: P := by
    rw [rngP, List.filter_eq_self]
    intro q hq
    simp [inR, hf q hq]
   rw [e1, e2, e3]; rfl
  ·have e1 : inR m [] p = false := by simp [inR, hp]
   rw [rngP_cons, rngP_cons, rngP_cons, e1]
   cases hf : Op.bytesLess p.1 f
   ·have e2 : inR f m p = true := by simp [inR, hp, hf]
    have e3 : inR f [] p = true := by simp [inR, hf]
    rw [e2, e3]
    simp [ih]
   ·have e2 : inR f m p = false := by simp [inR, hf]
    have e3 : inR f [] p = false := by simp [inR, hf]
    rw [e2, e3]
    simp [ih]
theorem rng_at {P : List PairB} {i : Nat} (h : i < P.length) (f : List UInt8) : rngP P f [] = rngP (P.take i) f [] ++ rngP (P.getD i ([], []) :: P.drop (i + 1)) f [] := by
 rw [← rngP_append, List.getD_eq_getElem?_getD, List.getElem?_eq_getElem h]
 simp
theorem rng_in {P : List PairB} {i : Nat} (h : i < P.length) (f : List UInt8) (hf : Op.bytesLess (keyAt P i) f = false) : (rngP (P.take i) f []).length < (rngP P f []).length ∧ (rngP P f []).getD (rngP (P.take i) f []).length ([], []) = P.getD i ([], []) := by
 have e3 : inR f [] (P.getD i ([], [])) = true := by
  have : Op.bytesLess (P.getD i ([], [])).1 f = false := hf
  unfold inR; rw [this]; rfl
 have e := rng_at h f
 rw [rngP_cons, if_pos e3] at e
 rw [e]
 refine ⟨by simp, ?_⟩
 rw [List.getD_eq_getElem?_getD, List.getElem?_append_right (by omega), Nat.sub_self]; rfl
theorem rng_out {P : List PairB} (hm : mayT P = true) {i : Nat} (h : i < P.length) (f : List UInt8) (hf : Op.bytesLess (keyAt P i) f = true) (hl : (rngP (P.take i) f []).length < (rngP P f []).length) : ¬ keyAt (rngP P f []) (rngP (P.take i) f []).length = keyAt P i := by
 have e3 : inR f [] (P.getD i ([], [])) = false := by
  have : Op.bytesLess (P.getD i ([], [])).1 f = true := hf
  unfold inR; rw [this]; rfl
 have e := rng_at h f
 rw [rngP_cons, if_neg (by rw [e3]; simp)] at e
 rw [e, List.length_append] at hl
 rw [e, keyAt, List.getD_eq_getElem?_getD, List.getElem?_append_right (by omega), Nat.sub_self]
 intro hk
 have h0 : 0 < (rngP (P.drop (i + 1)) f []).length := by omega
 rw [List.getElem?_eq_getElem h0] at hk
 have hmem : (rngP (P.drop (i + 1)) f [])[0] ∈ P.drop (i + 1) := (List.mem_filter.1 (List.getElem_mem h0)).1
 obtain ⟨j, hj, hje⟩ := List.getElem_of_mem hmem
 rw [List.length_drop] at hj
 rw [List.getElem_drop] at hje
 have : Op.bytesLess (keyAt P i) (keyAt P (i + 1 + j)) = true := mayT_lt' hm (by omega) (by omega)
 have hk2 : keyAt P (i + 1 + j) = keyAt P i := by
  rw [← hk, keyAt, List.getD_eq_getElem?_getD, List.getElem?_eq_getElem (by omega : i + 1 + j < P.length)]
  exact congrArg (·.1) hje
 rw [hk2, ltB_irr] at this; cases this
theorem c_bursarlaw09_TreeRanges (P0 : List PairB) (f0 m0 : List UInt8) (hC : (P0.length ≤ 140737488355328 ∧ lenP9 P0) ∧ f0.length ≤ 9223372036854775807 ∧ m0.length ≤ 9223372036854775807) : Pure Try.prog n_bursarlaw09_TreeRanges [.sl (pairsD P0), .str f0, .str m0] (.bool true) := by
 refine Pure.go tok (rs := [.tmp 6]) [.sl (pairsD P0), .str f0, .str m0, .undef, .undef, .undef, .undef, .undef, .undef, .undef, .undef, .undef, .undef, .undef, .undef, .undef, .undef, .undef, .undef, .undef, .undef, .undef, .undef, .undef, .undef, .undef, .undef, .undef, .undef, .undef, .undef, .undef, .undef, .undef, .undef, .undef, .undef, .undef, .undef, .undef, .undef, .undef, .undef, .undef, .undef, .undef, .undef, .undef, .undef, .undef, .undef, .undef, .undef, .undef, .undef, .undef, .undef, .undef, .undef, .undef, .undef, .undef, .undef, .undef, .undef, .undef, .undef, .undef, .undef, .undef, .undef, .undef, .undef, .undef, .undef, .undef, .undef, .undef, .undef, .undef, .undef, .undef, .undef, .undef, .undef, .undef, .undef, .undef, .undef, .undef, .undef, .undef, .undef, .undef, .undef, .undef, .undef, .undef, .undef, .undef, .undef, .undef, .undef, .undef, .undef, .undef, .undef, .undef, .undef, .undef, .undef, .undef, .undef, .undef, .undef, .undef, .undef, .undef, .undef, .undef] Try.func9 (fun σ => ?_)
 obtain ⟨hC0, hf0, hm0⟩ := hC
 have iF : Con Try.prog 12 [.sl (pairsD P0)] True (.sl (pairsD ((P0.take 120).map tp9))) := ⟨fun _ => c_bursarlaw09_few P0 hC0⟩
 have hP : ((P0.take 120).map tp9).length ≤ 120 := by simp; omega
 generalize (P0.take 120).map tp9 = P at iF hP
 have iO : Con Try.prog 35 [.str f0] True (.str (t70 f0)) := ⟨fun _ => c_bursarlaw09_text f0 hf0⟩
 have iM : Con Try.prog 35 [.str m0] True (.str (t70 m0)) := ⟨fun _ => c_bursarlaw09_text m0 hm0⟩
 generalize t70 f0 = f at iO
 generalize t70 m0 = m at iM
 have iB : Con Try.prog 13 [.sl (pairsD P)] True (.tup [.sl (nodesD (bldR P).1), .int .i64 (bldR P).2]) := ⟨fun _ => Pure_ans (c_tree_Build P (by omega)) (bldX_le P)⟩
 by_cases he : (bldR P).2 = 0
 ·obtain ⟨hm, hp, e1, hpo, hr, hl⟩ := bld_right (by omega) he
  have hsz := sizeT_bld (by omega) he
  rw [e1, he] at iB
  have iR : ∀ a b, Pure Try.prog 36 [.sl (nodesD (bldT P)), .str a, .str b] (.tup [.sl (pairsD (rngP P a b)), .int .i64 0]) := fun a b => by
   have := c_tree_Range (bldT P) a b hsz
   unfold rngT at this
   rwa [if_neg (by rw [hr]; simp), hpo] at this
  generalize bldT P = N at iB iR
  by_cases b1 : m = []
  ·have d1 : decide (m = []) = true := decide_eq_true b1
   repeat' (first | (show Ev _ _ _ _; first | refine Ev_seq ?_ | refine W_reg ?_ | refine W_ifT ?_ | refine Ev_ret ?_) | (show EvD _ _ [] _ _ _; refine W_nil ?_) | (show EvD _ _ (_ :: _) _ _ _; first | refine W_run tok ?_ ?_ (by simp (maxSteps := 1000000) (disch := omega) only [go_sem, wrap_i64_id, d1]; with_reducible exact rfl) | refine W_callee ?_) | (show EvC _ _ _ _ _ _ _ _ _; refine W_con ?_ ?_) | (show RetQ _ _ (RP _ _) _ _; refine R_ret ?_ ?_) | refine Q_thenN ?_ | refine Q_thenR ?_ | fail)
   all_goals (try exact sd)
   all_goals (try refine F_done ?_)
   all_goals first | rfl | trace_state
  ·have d1 : decide (m = []) = false := decide_eq_false b1
   by_cases b2 : Op.bytesLess m f = true
   ·repeat' (first | (show Ev _ _ _ _; first | refine Ev_seq ?_ | refine W_reg ?_ | refine W_ifT ?_ | refine Ev_ret ?_) | (show EvD _ _ [] _ _ _; refine W_nil ?_) | (show EvD _ _ (_ :: _) _ _ _; first | refine W_run tok ?_ ?_ (by simp (maxSteps := 1000000) (disch := omega) only [go_sem, wrap_i64_id, d1, b2]; with_reducible exact rfl) | refine W_callee ?_) | (show EvC _ _ _ _ _ _ _ _ _; refine W_con ?_ ?_) | (show RetQ _ _ (RP _ _) _ _; refine R_ret ?_ ?_) | refine Q_thenN ?_ | refine Q_thenR ?_ | fail)
    all_goals (try exact sd)
    all_goals (try refine F_done ?_)
    all_goals first | rfl | trace_state
   ·rw [Bool.not_eq_true] at b2
    have hsp := rng_split b2 b1 (mayT_pw hm)
    have hin := fun i h => @rng_in P i h f
    have hout := fun i h => @rng_out P hm i h f
    have ra := iR f m
    have rb := iR m []
    have rc := iR f []
    have la : (rngP P f m).length ≤ 120 := Nat.le_trans (List.length_filter_le _ _) hP
    have lb : (rngP P m []).length ≤ 120 := Nat.le_trans (List.length_filter_le _ _) hP
    have lc : (rngP P f []).length ≤ 120 := Nat.le_trans (List.length_filter_le _ _) hP
    have hend : rngP (P.take P.length) f [] = rngP P f [] := by rw [List.take_length]
    have hst : ∀ i, i < P.length → rngP (P.take (i + 1)) f [] = if inR f [] (P.getD i ([], [])) = true then rngP (P.take i) f [] ++ [P.getD i ([], [])] else rngP (P.take i) f [] := fun i hi => rngP_snoc hi rfl
    generalize rngP P f m = A at *
    generalize rngP P m [] = B at *
    generalize rngP P f [] = D at *
    have i1 : Con Try.prog 36 [.sl (nodesD N), .str f, .str m] True (.tup [.sl (pairsD A), .int .i64 0]) := ⟨fun _ => ra⟩
    have i2 : Con Try.prog 36 [.sl (nodesD N), .str m, .str []] True (.tup [.sl (pairsD B), .int .i64 0]) := ⟨fun _ => rb⟩
    have i3 : Con Try.prog 36 [.sl (nodesD N), .str f, .str []] True (.tup [.sl (pairsD D), .int .i64 0]) := ⟨fun _ => rc⟩
    have i6 : Con Try.prog 37 [.sl (pairsD D), .sl (pairsD D)] True (.bool true) := ⟨fun _ => by
     have := c_bursarref09_SamePairs D D (by omega)
     rwa [decide_eq_true rfl] at this⟩
    have hAB : pairsD A ++ pairsD B = pairsD D := by rw [← hsp]; simp [pairsD]
    have hABl : A.length + B.length = D.length := by rw [← hsp]; simp
    have hsA := pairsD_len A
    have hsB := pairsD_len B
    have hsD := pairsD_len D
    have hsP := pairsD_len P
    repeat' (first | (show Ev _ _ _ _; first | refine Ev_seq ?_ | refine W_reg ?_ | refine Ev_block ?_ | refine W_ifF ?_ | refine Ev_skip ?_) | (show EvD _ _ [] _ _ _; refine W_nil ?_) | (show EvD _ _ (_ :: _) _ _ _; first | refine W_run tok ?_ ?_ (by simp (maxSteps := 1000000) (disch := omega) only [go_sem, wrap_i64_id, d1, b2, List.nil_append, hAB, hABl]; with_reducible exact rfl) | refine W_callee ?_) | (show EvC _ _ _ _ _ _ _ _ _; first | refine W_con ?_ ?_ | refine W_frzArg ?_) | refine Q_thenN ?_ | fail)
    all_goals (try exact sd)
    all_goals (try refine F_done ?_)
    refine Ev_lp (P.length) (fun i => [(15, i64 (rngP (P.take i) f []).length), (16, i64 i)]) (fun i => ⟨σ.rows ++ [none], σ.boxes, σ.maps⟩) [6, 17, 80, 81, 82, 83, 84, 85, 86, 87, 88, 89, 90, 91, 92, 93, 94, 95, 96, 97, 98, 99, 100, 101, 102, 103, 104, 105, 106, 107, 108, 109, 110, 111, 112] ?_ (by first | rfl | (simp only [List.take_zero, List.append_nil]; done)) (fun i hi => ?_)
    ·exact le1
    have hle := rngP_le P f [] i
    by_cases hi' : i < P.length
    ·obtain ⟨k, v, hk, g1, hka⟩ := pget2 (P := P) (i := i) hi'
     have h1 := hin i hi'
     have h2 := hout i hi'
     have h3 := hst i hi'
     rw [hk] at h1 h3
     rw [hka] at h1 h2
     have rv : decide (v = v) = true := decide_eq_true rfl
     have rk : decide (k = k) = true := decide_eq_true rfl
     obtain ⟨q, hq⟩ : ∃ q, q = (rngP (P.take i) f []).length := ⟨_, rfl⟩
     rw [← hq] at h1 h2 hle ⊢
     by_cases b3 : Op.bytesLess k f = true
     ·have e : inR f [] (k, v) = false := by simp [inR, b3]
      rw [e, if_neg (by simp)] at h3
      by_cases hlq : q < D.length
      ·have h4 := h2 b3 hlq
       obtain ⟨k', v', hk', g2, hka'⟩ := pget2 (P := D) (i := q) hlq
       rw [hka'] at h4
       have d4 : decide (k' = k) = false := decide_eq_false h4
       repeat' (first | (show Ev _ (.region _ _ true) _ _; refine D_start [50, 51, 76, 78, 82, 90, 92] mix ?_) | (show DrD _ _ _ [] _ _ _ _; refine D_nil ?_; try dsimp only) | (show DrD _ _ _ (⟨_, _, _, _, _, some _⟩ :: _) _ _ _ _; refine D_grdY ?_) | (show DrD _ (EB _ _) _ (_ :: _) _ _ _ _; first | refine D_runL tok ?_ ?_ (h := by intro R; simp (maxSteps := 1000000) (disch := omega) only [go_sem, wrap_i64_id, g1, g2, d4, b3]; with_reducible exact rfl)) | (show Ev _ _ _ _; first | refine Ev_seq ?_ | refine W_reg ?_ | refine Ev_block ?_ | refine W_ifF ?_ | refine W_ifY ?_ | refine Ev_skip ?_) | (show EvD _ _ [] _ _ _; refine W_nil ?_) | (show EvD _ _ (_ :: _) _ _ _; first | refine W_run tok ?_ ?_ (by simp (maxSteps := 1000000) (disch := omega) only [go_sem, wrap_i64_id, g1, g2, d4, b3]; with_reducible exact rfl)) | refine Q_thenN ?_ | refine Q_blkN ?_ | fail)
       all_goals (try exact sd)
       all_goals (try refine F_done ?_)
       refine Q_rndN ?_ (by omega) ?_
       rotate_left
       ·rfl
       repeat (first | exact LeL.nil | refine LeL.cons2 ?_ (Le.undef _) | refine LeL.cons2 ?_ (Le.refl _) | refine LeL.cons2 ?_ (Le.sl _) | refine LeL.cons2 ?_ (Le.eq (by first | rfl | exact congrArg _ (by omega))) | refine LeL.cons2 ?_ (Le.eq ?_))
       all_goals first | (rw [h3, ← hq]; done) | trace_state
      ·have d5 : decide ((q : Int) < (D.length : Int)) = false := decide_eq_false (by omega)
       repeat' (first | (show Ev _ (.region _ _ true) _ _; refine D_start [50, 51, 76, 78, 82, 90, 92] mix ?_) | (show DrD _ _ _ [] _ _ _ _; refine D_nil ?_; try dsimp only) | (show DrD _ (EB _ _) _ (_ :: _) _ _ _ _; first | refine D_runL tok ?_ ?_ (h := by intro R; simp (maxSteps := 1000000) (disch := omega) only [go_sem, wrap_i64_id, g1, d5, b3]; with_reducible exact rfl)) | (show Ev _ _ _ _; first | refine Ev_seq ?_ | refine W_reg ?_ | refine Ev_block ?_ | refine W_ifF ?_ | refine W_ifY ?_ | refine Ev_skip ?_) | (show EvD _ _ [] _ _ _; refine W_nil ?_) | (show EvD _ _ (_ :: _) _ _ _; first | refine W_run tok ?_ ?_ (by simp (maxSteps := 1000000) (disch := omega) only [go_sem, wrap_i64_id, g1, d5, b3]; with_reducible exact rfl)) | refine Q_thenN ?_ | refine Q_blkN ?_ | fail)
       all_goals (try exact sd)
       all_goals (try refine F_done ?_)
       refine Q_rndN ?_ (by omega) ?_
       rotate_left
       ·rfl
       repeat (first | exact LeL.nil | refine LeL.cons2 ?_ (Le.undef _) | refine LeL.cons2 ?_ (Le.refl _) | refine LeL.cons2 ?_ (Le.sl _) | refine LeL.cons2 ?_ (Le.eq (by first | rfl | exact congrArg _ (by omega))) | refine LeL.cons2 ?_ (Le.eq ?_))
       all_goals first | (rw [h3, ← hq]; done) | trace_state
     ·rw [Bool.not_eq_true] at b3
      have e : inR f [] (k, v) = true := by simp [inR, b3]
      rw [e, if_pos rfl] at h3
      obtain ⟨hlq, h5⟩ := h1 b3
      have g2 := pairsD_get hlq
      rw [h5] at g2
      repeat' (first | (show Ev _ (.region _ _ true) _ _; refine D_start [50, 51, 76, 78, 82, 90, 92] mix ?_) | (show DrD _ _ _ [] _ _ _ _; refine D_nil ?_; try dsimp only) | (show DrD _ _ _ (⟨_, _, _, _, _, some _⟩ :: _) _ _ _ _; refine D_grdY ?_) | (show DrD _ (EB _ _) _ (_ :: _) _ _ _ _; first | refine D_runL tok ?_ ?_ (h := by intro R; simp (maxSteps := 1000000) (disch := omega) only [go_sem, wrap_i64_id, g1, g2, rv, rk, b3]; with_reducible exact rfl)) | (show Ev _ _ _ _; first | refine Ev_seq ?_ | refine W_reg ?_ | refine Ev_block ?_ | refine W_ifT ?_ | refine W_ifF ?_ | refine W_ifY ?_ | refine Ev_skip ?_) | (show EvD _ _ [] _ _ _; refine W_nil ?_) | (show EvD _ _ (_ :: _) _ _ _; first | refine W_run tok ?_ ?_ (by simp (maxSteps := 1000000) (disch := omega) only [go_sem, wrap_i64_id, g1, g2, rv, rk, b3]; with_reducible exact rfl)) | refine Q_thenN ?_ | refine Q_blkN ?_ | fail)
      all_goals (try exact sd)
      all_goals (try refine F_done ?_)
      refine Q_rndN ?_ (by omega) ?_
      rotate_left
      ·rfl
      repeat (first | exact LeL.nil | refine LeL.cons2 ?_ (Le.undef _) | refine LeL.cons2 ?_ (Le.refl _) | refine LeL.cons2 ?_ (Le.sl _) | refine LeL.cons2 ?_ (Le.eq (by first | rfl | exact congrArg _ (by omega))) | refine LeL.cons2 ?_ (Le.eq ?_))
      all_goals first | (rw [h3, List.length_append, ← hq]; rfl) | trace_state
    ·obtain rfl : i = P.length := by omega
     rw [hend]
     have rq : decide ((D.length : Int) = (D.length : Int)) = true := decide_eq_true rfl
     repeat' (first | (show Ev _ _ _ _; first | refine Ev_seq ?_ | refine W_reg ?_ | refine W_ifN ?_ | refine Ev_exit ?_ | refine Ev_ret ?_) | (show EvD _ _ [] _ _ _; refine W_nil ?_) | (show EvD _ _ (_ :: _) _ _ _; first | refine W_run tok ?_ ?_ (by simp (maxSteps := 1000000) (disch := omega) only [go_sem, wrap_i64_id, rq]; with_reducible exact rfl) | refine W_callee ?_) | (show EvC _ _ _ _ _ _ _ _ _; refine W_con ?_ ?_) | (show RetQ _ _ (RP _ _) _ _; refine R_ret ?_ ?_) | refine Q_thenN ?_ | refine Q_thenE ?_ | refine Q_blkE ?_ | refine Q_rndE ?_ | fail)
     all_goals (try exact sd)
     all_goals (try refine F_done ?_)
     all_goals first | rfl | trace_state
    all_goals exact ⟨⟨of_eq_true (pairsD_two A), of_eq_true (pairsD_c1 _ A), by omega⟩, of_eq_true (pairsD_two B), of_eq_true (pairsD_c1 _ B), by omega⟩
 ·have d0 : decide (((bldR P).2 : Int) = 0) = false := decide_eq_false (by omega)
  generalize nodesD (bldR P).1 = N at iB
  generalize (bldR P).2 = e at iB d0
  repeat' (first | (show Ev _ _ _ _; first | refine Ev_seq ?_ | refine W_reg ?_ | refine W_ifT ?_ | refine Ev_ret ?_) | (show EvD _ _ [] _ _ _; refine W_nil ?_) | (show EvD _ _ (_ :: _) _ _ _; first | refine W_run tok ?_ ?_ (by simp (maxSteps := 1000000) (disch := omega) only [go_sem, wrap_i64_id, d0]; with_reducible exact rfl) | refine W_callee ?_) | (show EvC _ _ _ _ _ _ _ _ _; refine W_con ?_ ?_) | (show RetQ _ _ (RP _ _) _ _; refine R_ret ?_ ?_) | refine Q_thenN ?_ | refine Q_thenR ?_ | fail)
  all_goals (try exact sd)
  all_goals (try refine F_done ?_)
  all_goals first | rfl | trace_state
instance i_bursarlaw09_TreeRanges (P0 : List PairB) (f0 m0 : List UInt8) : Con Try.prog 9 [.sl (pairsD P0), .str f0, .str m0] ((P0.length ≤ 140737488355328 ∧ lenP9 P0) ∧ f0.length ≤ 9223372036854775807 ∧ m0.length ≤ 9223372036854775807) (.bool true) := ⟨c_bursarlaw09_TreeRanges P0  f0 m0 ⟩
end Go.Val.Ytgjmpefhjdgkoaa
