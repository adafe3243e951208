/- Chapter 07, numbers as octets, walked. -/
import Derived.Test.YtpeleigbmboceaaC07b
namespace Go.Val.Ytpeleigbmboceaa
open Go Go.Val Go.Proofs Go.Proofs.Ytpeleigbmboceaa
attribute [local irreducible] Ev EvD EvC thenQ blockQ RoundG RetQ
set_option maxRecDepth 100000
set_option maxHeartbeats 4000000
set_option linter.unusedSimpArgs false
set_option linter.unusedVariables false


theorem c_super_lay (n w : Nat) (hC : n < 9223372036854775808 ∧ w ≤ 8) : PureApp Try.prog n_super_lay [.int .i64 n, .int .i64 w] (bytes (beN w n)) 5 1 1099511627776 := by
  refine PureApp.go tok (rs := [.tmp 6]) (fun id len => [.row id len, .int .i64 n, .int .i64 w, .undef, .undef, .undef, .undef, .undef, .undef, .undef, .undef, .undef, .undef, .undef, .undef, .undef, .undef, .undef, .undef, .undef, .undef, .undef, .undef]) Try.func13 (fun σ id xs hR hroom => ?_)
  have hid := (List.getElem?_eq_some_iff.1 hR).1
  have gs : ∀ x, (σ.rows.set id x)[id]? = some x := fun x => List.getElem?_set_self hid
  repeat' (first | (show Ev _ _ _ _; first | refine Ev_seq ?_ | refine W_reg ?_ | refine Ev_block ?_ | refine W_ifT ?_ | refine W_ifF ?_ | refine W_ifY ?_ | refine W_ifN ?_ | refine W_ifP (fun h => ?_) (fun h => ?_) | refine W_ifB (fun h => ?_) (fun h => ?_) | refine Ev_skip ?_ | refine Ev_exit ?_ | refine Ev_ret ?_) | (show EvD _ _ [] _ _ _; refine W_nil ?_) | (show EvD _ _ (_ :: _) _ _ _; first | refine W_run tok ?_ ?_ (by simp (maxSteps := 1000000) (disch := omega) only [go_sem, wrap_i64_id]; with_reducible exact rfl) | refine W_callee ?_ | refine W_frz ?_ | refine W_isnil tok (fun qn hqn => ?_)) | (show EvC _ _ _ _ _ _ _ _ _; first | refine W_con ?_ ?_ | refine W_weak ?_ | refine W_frzArg ?_) | (show RetQ _ _ (RO _ _ _ _) _ _; refine R_own ?_ ?_) | (show FrzTo _ _ _ _; first | refine F_row ?_ | refine F_weak ?_) | refine Q_thenN ?_ | refine Q_thenE ?_ | refine Q_thenR ?_ | refine Q_blkN ?_ | refine Q_blkE ?_ | (show blockQ _ _ _ _; refine Q_blkX ?_) | refine Q_blkR ?_ | refine Q_rndE ?_ | refine Q_rndR ?_)
  all_goals (try first | exact trivial | omega | (simp only [List.length_take, List.length_drop, List.length_append, List.length_replicate, List.length_cons, List.length_nil, bytes_len, beN_len, Int.reduceToNat, true_and, and_true]; omega))
  all_goals (try refine F_done ?_)
  refine Ev_lp (w) (fun i => [(0, .row id (xs.length + i)), (7, .int .i64 ((w : Int) - 1 - i))]) (fun i => ⟨σ.rows.set id (some ⟨xs ++ bytes ((beN w n).take i), 5, 1⟩), σ.boxes, σ.maps⟩) [10, 11, 12, 13, 14, 15, 16, 17, 18, 19, 20, 21] ?_ (by rw [List.take_zero, bytes_nil, List.append_nil, set_same hR]) (fun i hi => ?_)
  · repeat (first | exact LeL.nil | refine LeL.cons2 ?_ (Le.undef _) | refine LeL.cons2 ?_ (Le.refl _) | refine LeL.cons2 ?_ (Le.sl _) | refine LeL.cons2 ?_ (Le.eq ?_))
    all_goals (first | (simp; done) | (simp; omega) | (rw [DV.row.injEq]; exact ⟨by simp, by first | rfl | simp⟩) | skip)
  have hl : (bytes ((beN w n).take i)).length = i := by rw [bytes_len, List.length_take, beN_len]; omega
  by_cases hi' : i < w
  · have hf := beN_take_succ w n i hi'
    repeat' (first | (show Ev _ _ _ _; first | refine Ev_seq ?_ | refine W_reg ?_ | refine Ev_block ?_ | refine W_ifT ?_ | refine W_ifF ?_ | refine W_ifY ?_ | refine W_ifN ?_ | refine W_ifP (fun h => ?_) (fun h => ?_) | refine W_ifB (fun h => ?_) (fun h => ?_) | refine Ev_skip ?_ | refine Ev_exit ?_ | refine Ev_ret ?_) | (show EvD _ _ [] _ _ _; refine W_nil ?_) | (show EvD _ _ (_ :: _) _ _ _; first | refine W_run tok ?_ ?_ (by simp (maxSteps := 1000000) (disch := omega) only [go_sem, wrap_i64_id, gs, List.set_set, hl]; with_reducible exact rfl) | refine W_callee ?_ | refine W_frz ?_ | refine W_isnil tok (fun qn hqn => ?_)) | (show EvC _ _ _ _ _ _ _ _ _; first | refine W_con ?_ ?_ | refine W_weak ?_ | refine W_frzArg ?_) | (show RetQ _ _ (RO _ _ _ _) _ _; refine R_own ?_ ?_) | (show FrzTo _ _ _ _; first | refine F_row ?_ | refine F_weak ?_) | refine Q_thenN ?_ | refine Q_thenE ?_ | refine Q_thenR ?_ | refine Q_blkN ?_ | refine Q_blkE ?_ | (show blockQ _ _ _ _; refine Q_blkX ?_) | refine Q_blkR ?_ | refine Q_rndE ?_ | refine Q_rndR ?_)
    all_goals (try first | exact trivial | omega | (simp only [List.length_take, List.length_drop, List.length_append, List.length_replicate, List.length_cons, List.length_nil, bytes_len, beN_len, Int.reduceToNat, true_and, and_true]; omega))
    all_goals (try refine F_done ?_)
    refine Q_rndN ?_ (by omega) ?_
    rotate_left
    · rw [shr_byte (k := w - 1 - i) (by omega) (by omega), hf, bytes_append]; rfl
    repeat (first | exact LeL.nil | refine LeL.cons2 ?_ (Le.undef _) | refine LeL.cons2 ?_ (Le.refl _) | refine LeL.cons2 ?_ (Le.sl _) | refine LeL.cons2 ?_ (Le.eq (by first | rfl | exact congrArg _ (by omega))) | refine LeL.cons2 ?_ (Le.eq ?_))
  · obtain rfl : i = w := by omega
    repeat' (first | (show Ev _ _ _ _; first | refine Ev_seq ?_ | refine W_reg ?_ | refine Ev_block ?_ | refine W_ifT ?_ | refine W_ifF ?_ | refine W_ifY ?_ | refine W_ifN ?_ | refine W_ifP (fun h => ?_) (fun h => ?_) | refine W_ifB (fun h => ?_) (fun h => ?_) | refine Ev_skip ?_ | refine Ev_exit ?_ | refine Ev_ret ?_) | (show EvD _ _ [] _ _ _; refine W_nil ?_) | (show EvD _ _ (_ :: _) _ _ _; first | refine W_run tok ?_ ?_ (by simp (maxSteps := 1000000) (disch := omega) only [go_sem, wrap_i64_id]; with_reducible exact rfl) | refine W_callee ?_ | refine W_frz ?_ | refine W_isnil tok (fun qn hqn => ?_)) | (show EvC _ _ _ _ _ _ _ _ _; first | refine W_con ?_ ?_ | refine W_weak ?_ | refine W_frzArg ?_) | (show RetQ _ _ (RO _ _ _ _) _ _; refine R_own ?_ ?_) | (show FrzTo _ _ _ _; first | refine F_row ?_ | refine F_weak ?_) | refine Q_thenN ?_ | refine Q_thenE ?_ | refine Q_thenR ?_ | refine Q_blkN ?_ | refine Q_blkE ?_ | (show blockQ _ _ _ _; refine Q_blkX ?_) | refine Q_blkR ?_ | refine Q_rndE ?_ | refine Q_rndR ?_)
    all_goals (try first | exact trivial | omega | (simp only [List.length_take, List.length_drop, List.length_append, List.length_replicate, List.length_cons, List.length_nil, bytes_len, beN_len, Int.reduceToNat, true_and, and_true]; omega))
    all_goals (try refine F_done ?_)
    have ht : (beN i n).take i = beN i n := List.take_of_length_le (by rw [beN_len]; omega)
    rw [ht]
    refine R_app rfl ?_ (by rw [bytes_len, beN_len]) (fun ws h => h ▸ Grew_refl _)
    exact trivial
instance i_super_lay (n w : Int) : ConApp Try.prog n_super_lay [.int .i64 n, .int .i64 w] (0 ≤ n ∧ n < 9223372036854775808 ∧ 0 ≤ w ∧ w ≤ 8) (bytes (beN w.toNat n.toNat)) 5 1 1099511627776 :=
  ⟨fun h => by
    have := c_super_lay n.toNat w.toNat (by omega)
    rwa [show ((n.toNat : Nat) : Int) = n by omega, show ((w.toNat : Nat) : Int) = w by omega] at this⟩
end Go.Val.Ytpeleigbmboceaa
