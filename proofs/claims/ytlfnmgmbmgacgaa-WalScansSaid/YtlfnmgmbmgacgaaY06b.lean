/- Chapter 06: the document's writes and flushes, walked. -/
import Derived.Test.YtlfnmgmbmgacgaaY06a
namespace Go.Val.Ytlfnmgmbmgacgaa
open Go Go.Val Go.Proofs Go.Proofs.Ytlfnmgmbmgacgaa
attribute [local irreducible] Ev EvD EvC thenQ blockQ RoundG RetQ
set_option maxRecDepth 100000
set_option maxHeartbeats 4000000
set_option linter.unusedSimpArgs false
set_option linter.unusedVariables false
theorem cx2_Copy (S : List (List UInt8)) (W : List (Int × List UInt8)) (L : Int) (O : Bool) (hC : szP S W ∧ ((∀ b ∈ S, b.length ≤ 140737488355328) ∧ ∀ p ∈ W, p.2.length ≤ 140737488355328)) :
  ∀ σ : Store, Does Try.prog n_bursarref04_Copy [diskD S W L O] σ (one ((.agg [.sl (secs S), .row 0 W.length, .int .i64 L, .bool O] : DV).ren (σ.rows.length + ·) (σ.boxes.length + ·) (σ.maps.length + ·)) (σ.plus [⟨pends W, 66, 2⟩] [] [])) := by
 refine FxT.go tok (rv := [.cell 2 25]) [diskD S W L O, .undef, .undef, .undef, .undef, .undef, .undef, .undef, .undef, .undef, .undef, .undef, .undef, .undef, .undef, .undef, .undef, .undef, .undef, .undef, .undef, .undef, .undef, .undef, .undef, .undef, .undef, .undef, .undef, .undef, .undef, .undef, .undef, .undef, .undef, .undef, .undef, .undef, .undef, .undef, .undef, .undef, .undef, .undef, .undef, .undef, .undef, .undef, .undef, .undef, .undef, .undef, .undef, .undef, .undef, .undef, .undef, .undef] Try.func9 (fun σ => ?_)
 repeat' (first | (show Ev _ _ _ _; first | refine Ev_seq ?_ | refine W_reg ?_ | refine Ev_block ?_) | (show EvD _ _ [] _ _ _; refine W_nil ?_) | (show EvD _ _ (_ :: _) _ _ _; refine W_run tok ?_ ?_) | refine Q_thenN ?_ | fail)
 all_goals (try exact sd)
 all_goals (try refine F_done ?_)
 refine Ev_seedB (σ.boxes.length + 2) 0 28 1 (by (try simp only [app_get, app_get0, List.getElem?_cons_succ, List.getElem?_cons_zero]) <;> exact rfl) (by (try simp only [List.getElem?_cons_succ, List.getElem?_cons_zero]) <;> exact rfl) (by decide) (by (try simp only [app_len, List.length_cons, List.length_nil, Nat.zero_add, Nat.reduceAdd, app_set, app_set0, List.set_cons_succ, List.set_cons_zero]) <;> exact rfl) (by (try simp only [List.append_assoc, List.cons_append, List.nil_append]) <;> exact rfl) ?_
 refine Ev_seedB (σ.boxes.length + 2) 1 66 2 (by (try simp only [app_get, app_get0, List.getElem?_cons_succ, List.getElem?_cons_zero]) <;> exact rfl) (by (try simp only [List.getElem?_cons_succ, List.getElem?_cons_zero]) <;> exact rfl) (by decide) (by (try simp only [app_len, List.length_cons, List.length_nil, Nat.zero_add, Nat.reduceAdd, app_set, app_set0, List.set_cons_succ, List.set_cons_zero]) <;> exact rfl) (by (try simp only [List.append_assoc, List.cons_append, List.nil_append]) <;> exact rfl) ?_
 refine Ev_lp (S.length) (fun i => [(4, i64 i)]) (fun i => ⟨σ.rows ++ [some ⟨secs (S.take i), 28, 1⟩, some ⟨[], 66, 2⟩], σ.boxes ++ [some ⟨25, [.sl (secs S), .sl (pends W), .int .i64 L, .bool O]⟩, some ⟨25, [.slt [], .slt [], .int .i64 0, .bool false]⟩, some ⟨25, [.row σ.rows.length i, .row (σ.rows.length + 1) 0, .int .i64 L, .bool O]⟩], σ.maps⟩) [11, 12, 13, 14, 15, 16, 17, 18, 19, 20, 21, 22, 23, 24, 25, 26, 27, 28, 29] ?_ (by simp [secs]) (fun i hi => ?_)
 ·exact le1
 by_cases hi' : i < S.length
 ·have hl : (S.take i).length = i := by rw [List.length_take]; omega
  have hg := secs_get hi'
  have hs := take_snocS hi'
  have hb := hC.2.1 _ (getD_memS hi')
  repeat' (first | (show Ev _ (.region _ _ true) _ _; refine D_startA [9, 49, 51, 54, 65, 68, 100026, 99998] mix ?_) | (show DrD _ _ _ [] _ _ _ _; refine D_nil ?_; try dsimp only) | (show DrD _ EA _ (_ :: _) _ _ _ _; first | refine D_runLA tok ?_ ?_ (h := by intro R; simp (maxSteps := 1000000) (disch := omega) only [go_sem, wrap_i64_id, hg, hl, hs]; with_reducible exact rfl)) | (show DrD _ _ _ (_ :: _) _ _ _ _; first | refine D_store tok ?_ ?_ | refine D_eff tok ?_ ?_ | refine D_hold tok ?_ ?_) | (show Ev _ _ _ _; first | refine Ev_seq ?_ | refine W_reg ?_ | refine Ev_block ?_ | refine W_ifY ?_ | refine Ev_skip ?_) | (show EvD _ _ [] _ _ _; refine W_nil ?_) | (show EvD _ _ (_ :: _) _ _ _; first | refine W_run tok ?_ ?_ (by simp (maxSteps := 1000000) (disch := omega) only [go_sem, wrap_i64_id, hg, hl, hs]; with_reducible exact rfl)) | refine Q_thenN ?_ | refine Q_blkN ?_ | fail)
  all_goals (try exact sd)
  all_goals (try refine F_done ?_)
  refine Q_rndN ?_ (by omega) ?_
  rotate_left
  ·rfl
  repeat (first | exact LeL.nil | refine LeL.cons2 ?_ (Le.undef _) | refine LeL.cons2 ?_ (Le.refl _) | refine LeL.cons2 ?_ (Le.sl _) | refine LeL.cons2 ?_ (Le.eq (by first | rfl | exact congrArg _ (by omega))) | refine LeL.cons2 ?_ (Le.eq ?_))
 ·obtain rfl : i = S.length := by omega
  rw [List.take_length]
  repeat' (first | (show Ev _ _ _ _; first | refine Ev_seq ?_ | refine W_reg ?_ | refine Ev_block ?_ | refine W_ifN ?_ | refine Ev_exit ?_) | (show EvD _ _ [] _ _ _; refine W_nil ?_) | (show EvD _ _ (_ :: _) _ _ _; refine W_run tok ?_ ?_) | refine Q_thenN ?_ | refine Q_thenE ?_ | refine Q_blkE ?_ | refine Q_rndE ?_ | fail)
  all_goals (try exact sd)
  all_goals (try refine F_done ?_)
  refine Ev_lp (W.length) (fun j => [(5, i64 j)]) (fun j => ⟨σ.rows ++ [some ⟨secs S, 28, 1⟩, some ⟨pends (W.take j), 66, 2⟩], σ.boxes ++ [some ⟨25, [.sl (secs S), .sl (pends W), .int .i64 L, .bool O]⟩, some ⟨25, [.slt [], .slt [], .int .i64 0, .bool false]⟩, some ⟨25, [.row σ.rows.length S.length, .row (σ.rows.length + 1) j, .int .i64 L, .bool O]⟩], σ.maps⟩) [30, 31, 32, 33, 34, 35, 36, 37, 38, 39, 40, 41, 42, 43, 44, 45, 46, 47, 48, 49, 50, 51, 52, 53, 54, 55, 56] ?_ (by simp [pends]) (fun j hi => ?_)
  ·exact le1
  by_cases hj' : j < W.length
  ·have hl : (W.take j).length = j := by rw [List.length_take]; omega
   have hg := pends_get hj'
   have hs := take_snocW hj'
   have hb := hC.2.2 _ (getD_memW hj')
   repeat' (first | (show Ev _ (.region _ _ true) _ _; refine D_startA [9, 49, 51, 54, 65, 68, 100052, 99998] mix ?_) | (show DrD _ _ _ [] _ _ _ _; refine D_nil ?_; try dsimp only) | (show DrD _ EA _ (_ :: _) _ _ _ _; first | refine D_runLA tok ?_ ?_ (h := by intro R; simp (maxSteps := 1000000) (disch := omega) only [go_sem, wrap_i64_id, hg, hl, hs]; with_reducible exact rfl)) | (show DrD _ _ _ (_ :: _) _ _ _ _; first | refine D_store tok ?_ ?_ | refine D_eff tok ?_ ?_ | refine D_hold tok ?_ ?_) | (show Ev _ _ _ _; first | refine Ev_seq ?_ | refine W_reg ?_ | refine Ev_block ?_ | refine W_ifY ?_ | refine Ev_skip ?_) | (show EvD _ _ [] _ _ _; refine W_nil ?_) | (show EvD _ _ (_ :: _) _ _ _; first | refine W_run tok ?_ ?_ (by simp (maxSteps := 1000000) (disch := omega) only [go_sem, wrap_i64_id, hg, hl, hs]; with_reducible exact rfl)) | refine Q_thenN ?_ | refine Q_blkN ?_ | fail)
   all_goals (try exact sd)
   all_goals (try refine F_done ?_)
   refine Q_rndN ?_ (by omega) ?_
   rotate_left
   ·rfl
   repeat (first | exact LeL.nil | refine LeL.cons2 ?_ (Le.undef _) | refine LeL.cons2 ?_ (Le.refl _) | refine LeL.cons2 ?_ (Le.sl _) | refine LeL.cons2 ?_ (Le.eq (by first | rfl | exact congrArg _ (by omega))) | refine LeL.cons2 ?_ (Le.eq ?_))
  ·obtain rfl : j = W.length := by omega
   rw [List.take_length]
   repeat' (first | (show Ev _ _ _ _; first | refine Ev_seq ?_ | refine W_reg ?_) | (show EvD _ _ [] _ _ _; refine W_nil ?_) | (show EvD _ _ (_ :: _) _ _ _; refine W_run tok ?_ ?_) | fail)
   all_goals (try exact sd)
   all_goals (try refine F_done ?_)
   refine Q_thenN ?_
   repeat' (first | (show Ev _ _ _ _; first | refine W_ifN ?_ | refine Ev_exit ?_) | refine Q_thenE ?_ | refine Q_blkE ?_ | refine Q_rndE ?_ | fail)
   all_goals (try exact sd)
   all_goals (try refine F_done ?_)
   refine Q_thenN ?_
   refine W_frzC σ.rows.length ?_ (hs := by simp (disch := omega) only [pends_len, secs_len, frzAt, frzAtL, if_pos, if_neg, and_self, if_true]; exact rfl) (hB := by simp (disch := omega) only [frzBox, List.map_cons, List.map_nil, pends_len, secs_len, frzAt, frzAtL, if_pos, if_neg, and_self, if_true]; exact rfl)
   repeat' (first | (show Ev _ _ _ _; first | refine Ev_seq ?_ | refine W_reg ?_ | refine Ev_ret ?_) | (show EvD _ _ [] _ _ _; refine W_nil ?_) | (show EvD _ _ (_ :: _) _ _ _; refine W_run tok ?_ ?_) | (show RetQ _ _ (RX _ _ _ [_] [] []) _ _; refine R_xr ?_ (by intro p q s hp; simp only [DV.ren, rens, hp]; exact rfl) ?_) | refine Q_thenN ?_ | fail)
   all_goals (try exact sd)
   all_goals (try refine F_done ?_)
   all_goals first | rfl | trace_state
theorem c_bursarref04_Write (S : List (List UInt8)) (W : List (Int × List UInt8)) (L : Int) (O : Bool) (i : Int) (b : List UInt8) (hC : szP S W ∧ W.length < 549755813888 ∧ L < 9223372036854775808 ∧ b.length < 1099511627776) : Pure Try.prog n_bursarref04_Write [diskD S W L O, .int .i64 i, .str b] (.tup [writeD S W L O i b, .int .i64 (writeE S W L O i b)]) := by
 refine Pure.go tok (rs := [.cell 6 25, .tmp 7]) [diskD S W L O, .int .i64 i, .str b, .undef, .undef, .undef, .undef, .undef, .undef, .undef, .undef, .undef, .undef, .undef, .undef, .undef, .undef, .undef, .undef, .undef, .undef, .undef, .undef, .undef, .undef, .undef, .undef, .undef, .undef, .undef, .undef, .undef, .undef, .undef, .undef, .undef, .undef, .undef, .undef, .undef, .undef, .undef, .undef, .undef, .undef, .undef, .undef, .undef, .undef, .undef, .undef, .undef, .undef, .undef, .undef, .undef, .undef, .undef, .undef, .undef, .undef, .undef, .undef, .undef, .undef, .undef, .undef, .undef, .undef, .undef, .undef, .undef, .undef, .undef, .undef, .undef, .undef, .undef, .undef, .undef, .undef, .undef, .undef, .undef] Try.func25 (fun σ => ?_)
 have ht : Int.tmod (b.length : Int) 64 = ((b.length % 64 : Nat) : Int) := tmod_nat _ 64
 have hq : Int.tdiv (b.length : Int) 64 = ((b.length / 64 : Nat) : Int) := tdiv_nat _ 64
 by_cases c1 : ¬ mayP S W L ∨ b.length = 0 ∨ b.length % 64 ≠ 0
 ·have hE : writeE S W L O i b = 1 := by unfold writeE; rw [if_pos c1]
  by_cases hm : mayP S W L
  ·have c1 : b.length = 0 ∨ b.length % 64 ≠ 0 := c1.resolve_left (fun h => h hm)
   by_cases c0 : b.length = 0
   ·repeat' (first | (show Ev _ _ _ _; first | refine Ev_seq ?_ | refine W_reg ?_ | refine W_ifT ?_ | refine Ev_ret ?_) | (show EvD _ _ [] _ _ _; refine W_nil ?_) | (show EvD _ _ (⟨_, _, _, _, _, some _⟩ :: _) _ _ _; first | refine W_grdY ?_ | refine W_grdN ?_) | (show EvD _ _ (_ :: _) _ _ _; first | refine W_run tok ?_ ?_ (by simp (maxSteps := 1000000) (disch := omega) only [go_sem, wrap_i64_id, ht, hq]; with_reducible exact rfl) | refine W_callee ?_) | (show EvC _ _ _ _ _ _ _ _ _; refine W_con ?_ ?_) | (show RetQ _ _ (RP _ _) _ _; refine R_ret ?_ ?_) | (show FrzTo _ _ _ _; refine F_weak ?_) | refine Q_thenN ?_ | refine Q_thenR ?_ | fail)
    all_goals (try exact sd)
    all_goals (try refine F_done ?_)
    all_goals (simp [hE, writeP, secs, pends])
   ·repeat' (first | (show Ev _ _ _ _; first | refine Ev_seq ?_ | refine W_reg ?_ | refine W_ifY ?_ | refine Ev_ret ?_) | (show EvD _ _ [] _ _ _; refine W_nil ?_) | (show EvD _ _ (⟨_, _, _, _, _, some _⟩ :: _) _ _ _; refine W_grdN ?_) | (show EvD _ _ (_ :: _) _ _ _; first | refine W_run tok ?_ ?_ (by simp (maxSteps := 1000000) (disch := omega) only [go_sem, wrap_i64_id, ht, hq]; with_reducible exact rfl) | refine W_callee ?_) | (show EvC _ _ _ _ _ _ _ _ _; refine W_con ?_ ?_) | (show RetQ _ _ (RP _ _) _ _; refine R_ret ?_ ?_) | (show FrzTo _ _ _ _; refine F_weak ?_) | refine Q_thenN ?_ | refine Q_thenR ?_ | fail)
    all_goals (try exact sd)
    all_goals (try refine F_done ?_)
    all_goals (simp [hE, writeP, secs, pends])
  ·repeat' (first | (show Ev _ _ _ _; first | refine Ev_seq ?_ | refine W_reg ?_ | refine W_ifT ?_ | refine Ev_ret ?_) | (show EvD _ _ [] _ _ _; refine W_nil ?_) | (show EvD _ _ (⟨_, _, _, _, _, some _⟩ :: _) _ _ _; refine W_grdY ?_) | (show EvD _ _ (_ :: _) _ _ _; first | refine W_run tok ?_ ?_ (by simp (maxSteps := 1000000) (disch := omega) only [go_sem, wrap_i64_id, ht, hq]; with_reducible exact rfl) | refine W_callee ?_) | (show EvC _ _ _ _ _ _ _ _ _; refine W_con ?_ ?_) | (show RetQ _ _ (RP _ _) _ _; refine R_ret ?_ ?_) | (show FrzTo _ _ _ _; refine F_weak ?_) | refine Q_thenN ?_ | refine Q_thenR ?_ | fail)
   all_goals (try exact sd)
   all_goals (try refine F_done ?_)
   all_goals (simp [hE, writeP, secs, pends])
 ·have hm : mayP S W L := Classical.not_not.1 (fun h => c1 (.inl h))
  have c1' : ¬ (b.length = 0 ∨ b.length % 64 ≠ 0) := fun h => c1 (.inr h)
  have hB : (∀ b ∈ S, b.length ≤ 140737488355328) := fun b hb => by have := hm.2.2.1 b hb; omega
  have hW : (∀ p ∈ W, p.2.length ≤ 140737488355328) := fun p hp => by have := (hm.2.2.2 p hp).2.2; omega
  have iC : ConT Try.prog 9 [diskD S W L O] True (.agg [.sl (secs S), .row 0 W.length, .int .i64 L, .bool O]) [⟨pends W, 66, 2⟩] [] [] := ⟨fun _ => cx2_Copy S W L O ⟨hC.1, hB, hW⟩⟩
  by_cases c2 : (0 ≤ i ∧ i ≤ S.length ∧ ((b.length / 64 : Nat) : Int) ≤ S.length - i)
  ·have hlen : b.length = 64 * (b.length / 64) := by omega
   generalize hnn : b.length / 64 = n at *
   have hn1 : 1 ≤ n := by omega
   have hS := hm.1.2
   have hL := hm.2.1
   have hfl : ∀ k, k ≤ fitN L O n → -1 ≤ leftL L k ∧ leftL L k < 9223372036854775808 := by
    intro k hk
    unfold fitN at hk
    unfold leftL
    split at hk
    ·split <;> omega
    ·split at hk <;> split <;> omega
   have hE : writeE S W L O i b = if fitN L O n < n then 10 else 0 := by unfold writeE; rw [hnn, if_neg c1, if_neg (fun h => h c2)]
   have hfn : fitN L O n ≤ n := by unfold fitN; split; omega; split <;> omega
   cases O
   ·repeat' (first | (show Ev _ _ _ _; first | refine Ev_seq ?_ | refine W_reg ?_ | refine Ev_block ?_ | refine W_ifN ?_ | refine Ev_skip ?_) | (show EvD _ _ [] _ _ _; refine W_nil ?_) | (show EvD _ _ (⟨_, _, _, _, _, some _⟩ :: _) _ _ _; refine W_grdN ?_) | (show EvD _ _ (_ :: _) _ _ _; first | refine W_run tok ?_ ?_ (by simp (maxSteps := 1000000) (disch := omega) only [go_sem, wrap_i64_id, ht, hq]; with_reducible exact rfl) | refine W_callee ?_) | (show EvC _ _ _ _ _ _ _ _ _; first | refine W_conT ?_ ?_ | refine W_con ?_ ?_) | refine Q_thenN ?_ | fail)
    all_goals (try exact sd)
    all_goals (try refine F_done ?_)
    refine Ev_lp (fitN L false n) (fun k => [(10, i64 k)]) (fun k => ⟨σ.rows ++ [some ⟨pends (addW W i b k), 66, 2⟩], σ.boxes ++ [some ⟨25, [.sl (secs S), .sl (pends W), .int .i64 L, .bool false]⟩, some ⟨25, [.slt [], .slt [], .int .i64 0, .bool false]⟩, some ⟨25, [.sl (secs S), .row σ.rows.length (W.length + k), .int .i64 (leftL L k), .bool false]⟩], σ.maps⟩) [7, 11, 12, 52, 53, 54, 55, 56, 57, 58, 59, 60, 61, 62, 63, 64, 65, 66, 67, 68, 69, 70, 71, 72, 73, 74, 75, 76, 77, 78, 79, 80, 81, 82] ?_ (by simp [addW_zero, leftL]) (fun k hi => ?_)
    ·exact le1
    have hf := hfl k hi
    have hal := addW_len W i b k
    have hpl := pends_len (addW W i b k)
    rw [hal] at hpl
    have hDs := c_spent (.sl (secs S)) (.row σ.rows.length (W.length + k)) (leftL L k) false (by omega) (by omega)
    by_cases hi' : k < fitN L false n
    ·have hkL : L < 0 ∨ (k : Int) < L := by
      unfold fitN at hi'; rw [if_neg (by simp)] at hi'
      split at hi' <;> omega
     have hs : spendB (leftL L k) false = true := by
      have : leftL L k ≠ 0 := by unfold leftL; split <;> omega
      simp [spendB, this]
     have hs2 : spendL (leftL L k) false = leftL L (k + 1) := by
      unfold spendL; rw [hs]; unfold leftL; split <;> (simp only [true_and]; split <;> omega)
     rw [hs, hs2] at hDs
     have hch : List.drop (64 * k) (List.take (64 * k + 64) b) = chunk b k := by
      rw [List.drop_take]; unfold chunk; congr 1; omega
     have e1 : ((64 : Int) * (k : Int)).toNat = 64 * k := by omega
     have e2 : ((64 : Int) * (k : Int) + 64).toNat = 64 * k + 64 := by omega
     have hbl : 64 * k + 64 ≤ b.length := by omega
     repeat' (first | (show Ev _ _ _ _; first | refine Ev_seq ?_ | refine W_reg ?_ | refine Ev_block ?_ | refine W_ifY ?_ | refine Ev_skip ?_) | (show EvD _ _ [] _ _ _; refine W_nil ?_) | (show EvD _ _ (_ :: _) _ _ _; first | refine W_run tok ?_ ?_ (by simp (maxSteps := 1000000) (disch := omega) only [go_sem, wrap_i64_id]; with_reducible exact rfl) | refine W_callee ?_) | refine Q_thenN ?_ | fail)
     all_goals (try exact sd)
     all_goals (try refine F_done ?_)
     refine W_does (hDs _ (by simp [nameds, DV.named, secs_named]) (fun τ hτ => ⟨trivial, by simp only [Cell1, hτ]; exact ⟨⟨pends (addW W i b k), 66, 2⟩, by simp, by simp only [hpl]⟩⟩)) ?_
     repeat' (first | (show Ev _ (.region _ _ true) _ _; refine D_startA [9, 49, 51, 54, 65, 68, 99998] mix ?_) | (show DrD _ _ _ [] _ _ _ _; refine D_nil ?_; try dsimp only) | (show DrD _ EA _ (_ :: _) _ _ _ _; first | refine D_runLA tok ?_ ?_ (h := by intro R; simp (maxSteps := 1000000) (disch := omega) only [go_sem, wrap_i64_id, e1, e2, hch, hpl, pends_snoc, addW_succ]; with_reducible exact rfl)) | (show DrD _ _ _ (_ :: _) _ _ _ _; first | refine D_store tok ?_ ?_ | refine D_eff tok ?_ ?_ | refine D_hold tok ?_ ?_) | (show Ev _ _ _ _; first | refine Ev_seq ?_ | refine W_reg ?_ | refine W_ifF ?_ | refine Ev_skip ?_) | (show EvD _ _ [] _ _ _; refine W_nil ?_) | (show EvD _ _ (_ :: _) _ _ _; first | refine W_run tok ?_ ?_ (by simp (maxSteps := 1000000) (disch := omega) only [go_sem, wrap_i64_id, e1, e2, hch, hpl, pends_snoc, addW_succ]; with_reducible exact rfl)) | refine Q_thenN ?_ | refine Q_blkN ?_ | fail)
     all_goals (try exact sd)
     all_goals (try refine F_done ?_)
     ·refine Q_rndC (Rb := σ.rows) (A := σ.boxes) (Mb := σ.maps) (R := ((fun k => [some ⟨pends (addW W i b k), 66, 2⟩]) (k))) (R' := ((fun k => [some ⟨pends (addW W i b k), 66, 2⟩]) (k + 1))) (B := ((fun k => [some ⟨25, [.sl (secs S), .sl (pends W), .int .i64 L, .bool false]⟩, some ⟨25, [.slt [], .slt [], .int .i64 0, .bool false]⟩, some ⟨25, [.sl (secs S), .row σ.rows.length (W.length + k), .int .i64 (leftL L k), .bool false]⟩]) (k))) (B' := ((fun k => [some ⟨25, [.sl (secs S), .sl (pends W), .int .i64 L, .bool false]⟩, some ⟨25, [.slt [], .slt [], .int .i64 0, .bool false]⟩, some ⟨25, [.sl (secs S), .row σ.rows.length (W.length + k), .int .i64 (leftL L k), .bool false]⟩]) (k + 1))) (M := []) (M' := []) ?_ (by omega) (by first | rfl | simp only [List.append_nil]) (by first | rfl | simp only [List.append_nil]) (by first | ((try simp only [List.append_nil, List.cons_append, List.nil_append, List.append_assoc]) <;> exact rfl) | exact (List.append_nil _).symm) (by first | ((try simp only [List.append_nil, List.cons_append, List.nil_append, List.append_assoc]) <;> exact rfl) | exact (List.append_nil _).symm) (by first | ((try simp only [List.append_nil, List.cons_append, List.nil_append, List.append_assoc]) <;> exact rfl) | exact (List.append_nil _).symm) (by simp) (by simp) (by simp) (by simp [nameds, DV.named, bytes_named, nameds_append, secs_named, pends_named] <;> omega) (by repeat (first | exact allN_nil _ | refine allN_none ?_ | refine allN_some (by first | exact bytes_named _ _ _ _ | (simp [nameds, DV.named, bytes_named, nameds_append, secs_named, pends_named] <;> omega)) ?_)) (by repeat (first | exact allN_nil _ | refine allN_none ?_ | refine allN_some (by first | exact bytes_named _ _ _ _ | (simp [nameds, DV.named, bytes_named, nameds_append, secs_named, pends_named] <;> omega)) ?_)) (by simp)
      repeat (first | exact LeL.nil | refine LeL.cons2 ?_ (Le.undef _) | refine LeL.cons2 ?_ (Le.refl _) | refine LeL.cons2 ?_ (Le.sl _) | refine LeL.cons2 ?_ (Le.eq (by first | rfl | exact congrArg _ (by omega))) | refine LeL.cons2 ?_ (Le.eq ?_))
     all_goals first | rfl | trace_state
    ·obtain rfl : k = fitN L false n := by omega
     generalize hfm : fitN L false n = k at *
     by_cases hkn : k < n
     ·have hs : spendB (leftL L k) false = false := by
       rw [← hfm]
       unfold spendB leftL fitN
       simp only [Bool.false_eq_true, if_false]
       rw [← hfm] at hkn
       unfold fitN at hkn; rw [if_neg (by simp)] at hkn
       split at hkn
       ·omega
       ·rename_i hx; rw [if_neg hx, if_neg (by omega)]; simp; omega
      have hs2 : spendL (leftL L k) false = leftL L k := by unfold spendL; rw [hs]; simp
      rw [hs, hs2] at hDs
      rw [if_pos hkn] at hE
      repeat' (first | (show Ev _ _ _ _; first | refine Ev_seq ?_ | refine W_reg ?_ | refine Ev_block ?_ | refine W_ifY ?_ | refine Ev_skip ?_) | (show EvD _ _ [] _ _ _; refine W_nil ?_) | (show EvD _ _ (_ :: _) _ _ _; first | refine W_run tok ?_ ?_ (by simp (maxSteps := 1000000) (disch := omega) only [go_sem, wrap_i64_id]; with_reducible exact rfl) | refine W_callee ?_) | refine Q_thenN ?_ | fail)
      all_goals (try exact sd)
      all_goals (try refine F_done ?_)
      refine W_does (hDs _ (by simp [nameds, DV.named, secs_named]) (fun τ hτ => ⟨trivial, by simp only [Cell1, hτ]; exact ⟨⟨pends (addW W i b k), 66, 2⟩, by simp, by simp only [hpl]⟩⟩)) ?_
      repeat' (first | (show Ev _ _ _ _; first | refine Ev_seq ?_ | refine W_reg ?_ | refine W_ifT ?_ | refine Ev_ret ?_) | (show EvD _ _ [] _ _ _; refine W_nil ?_) | (show EvD _ _ (_ :: _) _ _ _; first | refine W_run tok ?_ ?_ (by simp (maxSteps := 1000000) (disch := omega) only [go_sem, wrap_i64_id, hpl]; with_reducible exact rfl)) | (show RetQ _ _ (RP _ _) _ _; refine R_ret ?_ ?_) | (show FrzTo _ _ _ _; refine F_row ?_) | refine Q_thenN ?_ | refine Q_thenR ?_ | refine Q_blkR ?_ | refine Q_rndR ?_ | fail)
      all_goals (try exact sd)
      all_goals (try refine F_done ?_)
      all_goals first | (simp [hE, writeP, hnn, hfm]; done) | trace_state
     ·rw [if_neg hkn] at hE
      repeat' (first | (show Ev _ _ _ _; first | refine Ev_seq ?_ | refine W_reg ?_ | refine W_ifN ?_ | refine Ev_exit ?_ | refine Ev_ret ?_) | (show EvD _ _ [] _ _ _; refine W_nil ?_) | (show EvD _ _ (_ :: _) _ _ _; first | refine W_run tok ?_ ?_ (by simp (maxSteps := 1000000) (disch := omega) only [go_sem, wrap_i64_id, hpl]; with_reducible exact rfl)) | (show RetQ _ _ (RP _ _) _ _; refine R_ret ?_ ?_) | (show FrzTo _ _ _ _; refine F_row ?_) | refine Q_thenN ?_ | refine Q_thenE ?_ | refine Q_blkE ?_ | refine Q_rndE ?_ | fail)
      all_goals (try exact sd)
      all_goals (try refine F_done ?_)
      all_goals first | (simp [hE, writeP, hnn, hfm]; done) | trace_state
   ·have hf0 : fitN L true n = 0 := by simp [fitN]
    have hs : spendB L true = false := by simp [spendB]
    have hs2 : spendL L true = L := by unfold spendL; rw [hs]; simp
    rw [hf0, if_pos (by omega)] at hE
    have hDs := c_spent (.sl (secs S)) (.row σ.rows.length W.length) L true (by omega) (by omega)
    rw [hs, hs2] at hDs
    have hpl := pends_len W
    repeat' (first | (show Ev _ _ _ _; first | refine Ev_seq ?_ | refine W_reg ?_ | refine Ev_block ?_ | refine W_ifN ?_ | refine Ev_skip ?_) | (show EvD _ _ [] _ _ _; refine W_nil ?_) | (show EvD _ _ (⟨_, _, _, _, _, some _⟩ :: _) _ _ _; refine W_grdN ?_) | (show EvD _ _ (_ :: _) _ _ _; first | refine W_run tok ?_ ?_ (by simp (maxSteps := 1000000) (disch := omega) only [go_sem, wrap_i64_id, ht, hq]; with_reducible exact rfl) | refine W_callee ?_) | (show EvC _ _ _ _ _ _ _ _ _; first | refine W_conT ?_ ?_ | refine W_con ?_ ?_) | refine Q_thenN ?_ | fail)
    all_goals (try exact sd)
    all_goals (try refine F_done ?_)
    refine Ev_lp (0) (fun k => [(10, i64 k)]) (fun k => ⟨σ.rows ++ [some ⟨pends W, 66, 2⟩], σ.boxes ++ [some ⟨25, [.sl (secs S), .sl (pends W), .int .i64 L, .bool true]⟩, some ⟨25, [.slt [], .slt [], .int .i64 0, .bool false]⟩, some ⟨25, [.sl (secs S), .row σ.rows.length W.length, .int .i64 L, .bool true]⟩], σ.maps⟩) [7, 11, 12, 52, 53, 54, 55, 56, 57, 58, 59, 60, 61, 62, 63, 64, 65, 66, 67, 68, 69, 70, 71, 72, 73, 74, 75, 76, 77, 78, 79, 80, 81, 82] ?_ (by first | rfl | (simp only [List.take_zero, List.append_nil]; done)) (fun k hi => ?_)
    ·exact le1
    obtain rfl : k = 0 := by omega
    repeat' (first | (show Ev _ _ _ _; first | refine Ev_seq ?_ | refine W_reg ?_ | refine Ev_block ?_ | refine W_ifY ?_ | refine Ev_skip ?_) | (show EvD _ _ [] _ _ _; refine W_nil ?_) | (show EvD _ _ (_ :: _) _ _ _; first | refine W_run tok ?_ ?_ (by simp (maxSteps := 1000000) (disch := omega) only [go_sem, wrap_i64_id]; with_reducible exact rfl) | refine W_callee ?_) | refine Q_thenN ?_ | fail)
    all_goals (try exact sd)
    all_goals (try refine F_done ?_)
    refine W_does (hDs _ (by simp [nameds, DV.named, secs_named]) (fun τ hτ => ⟨trivial, by simp only [Cell1, hτ]; exact ⟨⟨pends W, 66, 2⟩, by simp, by simp only [hpl]⟩⟩)) ?_
    repeat' (first | (show Ev _ _ _ _; first | refine Ev_seq ?_ | refine W_reg ?_ | refine W_ifT ?_ | refine Ev_ret ?_) | (show EvD _ _ [] _ _ _; refine W_nil ?_) | (show EvD _ _ (_ :: _) _ _ _; first | refine W_run tok ?_ ?_ (by simp (maxSteps := 1000000) (disch := omega) only [go_sem, wrap_i64_id, hpl]; with_reducible exact rfl)) | (show RetQ _ _ (RP _ _) _ _; refine R_ret ?_ ?_) | (show FrzTo _ _ _ _; refine F_row ?_) | refine Q_thenN ?_ | refine Q_thenR ?_ | refine Q_blkR ?_ | refine Q_rndR ?_ | fail)
    all_goals (try exact sd)
    all_goals (try refine F_done ?_)
    all_goals first | (simp [hE, writeP, hnn, hf0, addW_zero, leftL]; done) | trace_state
  ·have hE : writeE S W L O i b = 5 := by unfold writeE; rw [if_neg c1, if_pos c2]
   repeat' (first | (show Ev _ _ _ _; first | refine Ev_seq ?_ | refine W_reg ?_ | refine W_ifT ?_ | refine W_ifY ?_ | refine W_ifN ?_ | refine Ev_skip ?_ | refine Ev_ret ?_) | (show EvD _ _ [] _ _ _; refine W_nil ?_) | (show EvD _ _ (⟨_, _, _, _, _, some _⟩ :: _) _ _ _; first | refine W_grdN ?_ | refine W_grdP (fun h => ?_) (fun h => ?_)) | (show EvD _ _ (_ :: _) _ _ _; first | refine W_run tok ?_ ?_ (by simp (maxSteps := 1000000) (disch := omega) only [go_sem, wrap_i64_id, ht, hq]; with_reducible exact rfl) | refine W_callee ?_) | (show EvC _ _ _ _ _ _ _ _ _; refine W_con ?_ ?_) | (show RetQ _ _ (RP _ _) _ _; refine R_ret ?_ ?_) | (show FrzTo _ _ _ _; refine F_weak ?_) | refine Q_thenN ?_ | refine Q_thenR ?_ | fail)
   all_goals (try exact sd)
   all_goals (try refine F_done ?_)
   all_goals (simp [hE, writeP, secs, pends])
instance i_bursarref04_Write (S : List (List UInt8)) (W : List (Int × List UInt8)) (L : Int) (O : Bool) (i : Int) (b : List UInt8) : Con Try.prog 25 [diskD S W L O, .int .i64 i, .str b] (szP S W ∧ W.length < 549755813888 ∧ L < 9223372036854775808 ∧ b.length < 1099511627776) (.tup [writeD S W L O i b, .int .i64 (writeE S W L O i b)]) := ⟨c_bursarref04_Write S  W  L  O  i  b ⟩
theorem c_bursarref04_Flush (S : List (List UInt8)) (W : List (Int × List UInt8)) (L : Int) (O : Bool) (hC : szP S W ∧ L < 9223372036854775808) : Pure Try.prog n_bursarref04_Flush [diskD S W L O] (.tup [flushD S W L O, .int .i64 (flushE S W L O)]) := by
 refine Pure.go tok (rs := [.cell 2 25, .tmp 3]) [diskD S W L O, .undef, .undef, .undef, .undef, .undef, .undef, .undef, .undef, .undef, .undef, .undef, .undef, .undef, .undef, .undef, .undef, .undef, .undef, .undef, .undef, .undef, .undef, .undef, .undef, .undef, .undef, .undef, .undef, .undef, .undef, .undef, .undef, .undef, .undef, .undef, .undef, .undef, .undef, .undef, .undef, .undef, .undef, .undef] Try.func26 (fun σ => ?_)
 by_cases hm : mayP S W L
 ·have ha := mayP_at hm
  have hB : (∀ b ∈ S, b.length ≤ 140737488355328) := fun b hb => by have := hm.2.2.1 b hb; omega
  have hW : (∀ p ∈ W, p.2.length ≤ 140737488355328) := fun p hp => by have := (hm.2.2.2 p hp).2.2; omega
  have hCC : szP S W ∧ (∀ b ∈ S, b.length ≤ 140737488355328) ∧ (∀ p ∈ W, p.2.length ≤ 140737488355328) := ⟨hC.1, hB, hW⟩
  have hL := hm.2.1
  have hsl := secs_len S
  have hDs := fun σ : Store => c_spent (.row σ.rows.length S.length) (.sl (pends W)) L O (by omega) hC.2
  cases hs : spendB L O with
  | true =>
   have hE : flushE S W L O = 0 := by simp [flushE, hm, hs]
   have hL2 : -1 ≤ spendL L O ∧ spendL L O < 9223372036854775808 := by
    have := hC.2
    have h0 : L ≠ 0 := by intro h; subst h; simp [spendB] at hs
    unfold spendL; split <;> omega
   rw [hs] at hDs
   generalize hSp : spendL L O = L' at *
   repeat' (first | (show Ev _ _ _ _; first | refine Ev_seq ?_ | refine W_reg ?_ | refine W_ifN ?_ | refine Ev_skip ?_) | (show EvD _ _ [] _ _ _; refine W_nil ?_) | (show EvD _ _ (_ :: _) _ _ _; first | refine W_run tok ?_ ?_ | refine W_callee ?_) | (show EvC _ _ _ _ _ _ _ _ _; first | refine W_conT ?_ ?_ | refine W_con ?_ ?_) | refine Q_thenN ?_ | fail)
   all_goals (try exact sd)
   all_goals (try refine F_done ?_)
   refine W_does (hDs _ _ (by simp [nameds, DV.named, pends_named]) (fun τ hτ => ⟨by simp only [Cell1, hτ]; exact ⟨⟨secs S, 28, 1⟩, by simp, by simp only [hsl]⟩, trivial⟩)) ?_
   repeat' (first | (show Ev _ _ _ _; first | refine Ev_seq ?_ | refine W_reg ?_ | refine Ev_block ?_ | refine W_ifF ?_ | refine Ev_skip ?_) | (show EvD _ _ [] _ _ _; refine W_nil ?_) | (show EvD _ _ (_ :: _) _ _ _; refine W_run tok ?_ ?_) | refine Q_thenN ?_ | fail)
   all_goals (try exact sd)
   all_goals (try refine F_done ?_)
   refine Ev_lp (W.length) (fun i => [(6, i64 i)]) (fun i => ⟨σ.rows ++ [some ⟨secs (doneN S W (fun _ => true) i), 28, 1⟩], σ.boxes ++ [some ⟨25, [.sl (secs S), .sl (pends W), .int .i64 L, .bool O]⟩, some ⟨25, [.slt [], .slt [], .int .i64 0, .bool false]⟩, some ⟨25, [.row σ.rows.length S.length, .sl (pends W), .int .i64 L', .bool false]⟩], σ.maps⟩) [20, 21, 22, 23, 24, 25, 26, 27, 28, 29, 30, 31, 32, 33, 34, 35, 36, 37, 38, 39, 40, 41] ?_ (by first | rfl | (simp only [List.take_zero, List.append_nil]; done)) (fun i hi => ?_)
   ·exact le1
   have hl := doneN_len S W (fun _ => true) i
   by_cases hi' : i < W.length
   ·have hg := pends_get hi'
    have hW2 := ha (W.getD i (0, [])) (getD_memW hi')
    have hn : doneN S W (fun _ => true) (i + 1) = (doneN S W (fun _ => true) i).set (W.getD i (0, [])).1.toNat (W.getD i (0, [])).2 := by
     rw [doneN, if_pos rfl]
    repeat' (first | (show Ev _ (.region _ _ true) _ _; refine D_startA [9, 49, 51, 54, 65, 68, 99998, 99997] mix ?_) | (show DrD _ _ _ [] _ _ _ _; refine D_nil ?_; try dsimp only) | (show DrD _ EA _ (_ :: _) _ _ _ _; first | refine D_runLA tok ?_ ?_ (h := by intro R; simp (maxSteps := 1000000) (disch := omega) only [go_sem, wrap_i64_id, hg, hl, secs_get, DV.over, List.headD_cons, secs_set]; with_reducible exact rfl)) | (show DrD _ _ _ (_ :: _) _ _ _ _; first | refine D_store tok ?_ ?_ | refine D_hold tok ?_ ?_) | (show Ev _ _ _ _; first | refine Ev_seq ?_ | refine W_reg ?_ | refine Ev_block ?_ | refine W_ifY ?_ | refine Ev_skip ?_) | (show EvD _ _ [] _ _ _; refine W_nil ?_) | (show EvD _ _ (_ :: _) _ _ _; first | refine W_run tok ?_ ?_ (by simp (maxSteps := 1000000) (disch := omega) only [go_sem, wrap_i64_id, hg, hl, secs_get, DV.over, List.headD_cons, secs_set]; with_reducible exact rfl)) | refine Q_thenN ?_ | refine Q_blkN ?_ | fail)
    all_goals (try exact sd)
    all_goals (try refine F_done ?_)
    refine Q_rndC (Rb := σ.rows) (A := σ.boxes) (Mb := σ.maps) (R := ((fun i => [some ⟨secs (doneN S W (fun _ => true) i), 28, 1⟩]) (i))) (R' := ((fun i => [some ⟨secs (doneN S W (fun _ => true) i), 28, 1⟩]) (i + 1))) (B := ((fun i => [some ⟨25, [.sl (secs S), .sl (pends W), .int .i64 L, .bool O]⟩, some ⟨25, [.slt [], .slt [], .int .i64 0, .bool false]⟩, some ⟨25, [.row σ.rows.length S.length, .sl (pends W), .int .i64 L', .bool false]⟩]) (i))) (B' := ((fun i => [some ⟨25, [.sl (secs S), .sl (pends W), .int .i64 L, .bool O]⟩, some ⟨25, [.slt [], .slt [], .int .i64 0, .bool false]⟩, some ⟨25, [.row σ.rows.length S.length, .sl (pends W), .int .i64 L', .bool false]⟩]) (i + 1))) (M := []) (M' := []) ?_ (by omega) (by first | rfl | simp only [List.append_nil]) (by first | rfl | simp only [List.append_nil]) (by first | ((try simp only [List.append_nil, List.cons_append, List.nil_append, List.append_assoc, hn]) <;> exact rfl) | exact (List.append_nil _).symm) (by first | ((try simp only [List.append_nil, List.cons_append, List.nil_append, List.append_assoc, hn]) <;> exact rfl) | exact (List.append_nil _).symm) (by first | ((try simp only [List.append_nil, List.cons_append, List.nil_append, List.append_assoc, hn]) <;> exact rfl) | exact (List.append_nil _).symm) (by simp) (by simp) (by simp) (by simp [nameds, DV.named, bytes_named, nameds_append, secs_named, pends_named, boolsD_named] <;> omega) (by repeat (first | exact allN_nil _ | refine allN_none ?_ | refine allN_some (by first | exact bytes_named _ _ _ _ | (simp [nameds, DV.named, bytes_named, nameds_append, secs_named, pends_named, boolsD_named] <;> omega)) ?_)) (by repeat (first | exact allN_nil _ | refine allN_none ?_ | refine allN_some (by first | exact bytes_named _ _ _ _ | (simp [nameds, DV.named, bytes_named, nameds_append, secs_named, pends_named, boolsD_named] <;> omega)) ?_)) (by simp)
    repeat (first | exact LeL.nil | refine LeL.cons2 ?_ (Le.undef _) | refine LeL.cons2 ?_ (Le.refl _) | refine LeL.cons2 ?_ (Le.sl _) | refine LeL.cons2 ?_ (Le.eq (by first | rfl | exact congrArg _ (by omega))) | refine LeL.cons2 ?_ (Le.eq ?_))
    all_goals first | exact ⟨by omega, by rw [hg]; rfl⟩ | trace_state
   ·obtain rfl : i = W.length := by omega
    repeat' (first | (show Ev _ _ _ _; first | refine Ev_seq ?_ | refine W_reg ?_ | refine W_ifN ?_ | refine Ev_exit ?_ | refine Ev_ret ?_) | (show EvD _ _ [] _ _ _; refine W_nil ?_) | (show EvD _ _ (_ :: _) _ _ _; first | refine W_run tok ?_ ?_ (by simp (maxSteps := 1000000) (disch := omega) only [go_sem, wrap_i64_id, hl]; with_reducible exact rfl)) | (show RetQ _ _ (RP _ _) _ _; refine R_ret ?_ ?_) | (show FrzTo _ _ _ _; first | refine F_row ?_ | refine F_weak ?_) | refine Q_thenN ?_ | refine Q_thenE ?_ | refine Q_blkE ?_ | refine Q_rndE ?_ | fail)
    all_goals (try exact sd)
    all_goals (try refine F_done ?_)
    all_goals first | (simp [hE, flushS, doneS, pends, hSp]; done) | trace_state
  | false =>
   have hE : flushE S W L O = 10 := by simp [flushE, hm, hs]
   rw [hs] at hDs
   repeat' (first | (show Ev _ _ _ _; first | refine Ev_seq ?_ | refine W_reg ?_ | refine W_ifN ?_ | refine Ev_skip ?_) | (show EvD _ _ [] _ _ _; refine W_nil ?_) | (show EvD _ _ (_ :: _) _ _ _; first | refine W_run tok ?_ ?_ | refine W_callee ?_) | (show EvC _ _ _ _ _ _ _ _ _; first | refine W_conT ?_ ?_ | refine W_con ?_ ?_) | refine Q_thenN ?_ | fail)
   all_goals (try exact sd)
   all_goals (try refine F_done ?_)
   refine W_does (hDs _ _ (by simp [nameds, DV.named, pends_named]) (fun τ hτ => ⟨by simp only [Cell1, hτ]; exact ⟨⟨secs S, 28, 1⟩, by simp, by simp only [hsl]⟩, trivial⟩)) ?_
   repeat' (first | (show Ev _ _ _ _; first | refine Ev_seq ?_ | refine W_reg ?_ | refine W_ifT ?_ | refine Ev_ret ?_) | (show EvD _ _ [] _ _ _; refine W_nil ?_) | (show EvD _ _ (_ :: _) _ _ _; first | refine W_run tok ?_ ?_ (by simp (maxSteps := 1000000) (disch := omega) only [go_sem, hsl]; with_reducible exact rfl)) | (show RetQ _ _ (RP _ _) _ _; refine R_ret ?_ ?_) | (show FrzTo _ _ _ _; refine F_row ?_) | refine Q_thenN ?_ | refine Q_thenR ?_ | fail)
   all_goals (try exact sd)
   all_goals (try refine F_done ?_)
   all_goals first | (simp [hE, pends]; done) | trace_state
 ·have hE : flushE S W L O = 1 := by simp [flushE, hm]
  repeat' (first | (show Ev _ _ _ _; first | refine Ev_seq ?_ | refine W_reg ?_ | refine W_ifY ?_ | refine Ev_ret ?_) | (show EvD _ _ [] _ _ _; refine W_nil ?_) | (show EvD _ _ (_ :: _) _ _ _; first | refine W_run tok ?_ ?_ | refine W_callee ?_) | (show EvC _ _ _ _ _ _ _ _ _; refine W_con ?_ ?_) | (show RetQ _ _ (RP _ _) _ _; refine R_ret ?_ ?_) | (show FrzTo _ _ _ _; refine F_weak ?_) | refine Q_thenN ?_ | refine Q_thenR ?_ | fail)
  all_goals (try exact sd)
  all_goals (try refine F_done ?_)
  simp [hE, secs, pends]
instance i_bursarref04_Flush (S : List (List UInt8)) (W : List (Int × List UInt8)) (L : Int) (O : Bool) : Con Try.prog 26 [diskD S W L O] (szP S W ∧ L < 9223372036854775808) (.tup [flushD S W L O, .int .i64 (flushE S W L O)]) := ⟨c_bursarref04_Flush S  W  L  O ⟩
end Go.Val.Ytlfnmgmbmgacgaa
