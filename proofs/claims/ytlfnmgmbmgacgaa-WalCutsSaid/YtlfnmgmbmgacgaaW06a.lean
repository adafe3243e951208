/- Chapter 06: what is read of any disk, walked. -/
import Derived.Test.YtlfnmgmbmgacgaaD04h
import Derived.Test.YtlfnmgmbmgacgaaVM6
namespace Go.Val.Ytlfnmgmbmgacgaa
open Go Go.Val Go.Proofs Go.Proofs.Ytlfnmgmbmgacgaa
attribute [local irreducible] Ev EvD EvC thenQ blockQ RoundG RetQ
set_option maxRecDepth 100000
set_option maxHeartbeats 4000000
set_option linter.unusedSimpArgs false
set_option linter.unusedVariables false
def nowN (S : List (List UInt8)) (W : List (Int × List UInt8)) (i : Nat) : Nat → List UInt8
 | 0 => S.getD i []
 | k + 1 => if (W.getD k (0, [])).1 = (i : Int) then (W.getD k (0, [])).2 else nowN S W i k
def nowS (S : List (List UInt8)) (W : List (Int × List UInt8)) (i : Nat) : List UInt8 := nowN S W i W.length
def readS (S : List (List UInt8)) (W : List (Int × List UInt8)) (i n : Nat) : List UInt8 := (List.range n).flatMap fun t => nowS S W (i + t)
def readE (S : List (List UInt8)) (W : List (Int × List UInt8)) (L : Int) (O : Bool) (i n : Int) : Int := if ¬ mayP S W L then 1 else if ¬ (0 ≤ i ∧ 0 ≤ n ∧ i ≤ S.length ∧ n ≤ S.length - i) then 5 else if O = true then 10 else 0
theorem readS_succ (S : List (List UInt8)) (W : List (Int × List UInt8)) (i n : Nat) : readS S W i (n + 1) = readS S W i n ++ nowS S W (i + n) := by simp [readS, List.range_succ]
theorem nowN_len {S : List (List UInt8)} {W : List (Int × List UInt8)} {L : Int} (h : mayP S W L) {i : Nat} (hi : i < S.length) : ∀ k, k ≤ W.length → (nowN S W i k).length = 64
 | 0, _ => h.2.2.1 _ (getD_memS hi)
 | k + 1, hk => by
  unfold nowN
  split
  ·exact (h.2.2.2 _ (getD_memW (by omega))).2.2
  ·exact nowN_len h hi k (by omega)
theorem readS_len {S : List (List UInt8)} {W : List (Int × List UInt8)} {L : Int} (h : mayP S W L) (i : Nat) : ∀ n, i + n ≤ S.length → (readS S W i n).length = 64 * n
 | 0, _ => by simp [readS]
 | n + 1, hn => by
  rw [readS_succ, List.length_append, readS_len h i n (by omega), nowS, nowN_len h (by omega) _ (Nat.le_refl _)]; omega
theorem c_disk_Read (S : List (List UInt8)) (W : List (Int × List UInt8)) (L : Int) (O : Bool) (i n : Int) (hC : szP S W) : Pure Try.prog n_disk_Read [diskD S W L O, .int .i64 i, .int .i64 n] (.tup [.sl (bytes (if readE S W L O i n = 0 then readS S W i.toNat n.toNat else [])), .int .i64 (readE S W L O i n)]) := by
 refine Pure.go tok (rs := [.tmp 6, .tmp 7]) [diskD S W L O, .int .i64 i, .int .i64 n, .undef, .undef, .undef, .undef, .undef, .undef, .undef, .undef, .undef, .undef, .undef, .undef, .undef, .undef, .undef, .undef, .undef, .undef, .undef, .undef, .undef, .undef, .undef, .undef, .undef, .undef, .undef, .undef, .undef, .undef, .undef, .undef, .undef, .undef, .undef, .undef, .undef, .undef, .undef, .undef, .undef, .undef, .undef, .undef, .undef, .undef, .undef, .undef, .undef, .undef, .undef, .undef, .undef, .undef] Try.func61 (fun σ => ?_)
 by_cases hm : mayP S W L
 ·by_cases hr : 0 ≤ i ∧ 0 ≤ n ∧ i ≤ S.length ∧ n ≤ S.length - i
  ·obtain ⟨i, rfl⟩ : ∃ m : Nat, i = m := ⟨i.toNat, by omega⟩
   obtain ⟨n, rfl⟩ : ∃ m : Nat, n = m := ⟨n.toNat, by omega⟩
   have hr' : (0 ≤ (i : Int) ∧ 0 ≤ (n : Int) ∧ (i : Int) ≤ S.length ∧ (n : Int) ≤ S.length - i) := hr
   have hin : i + n ≤ S.length := by omega
   have hmS := hm.1
   cases O with
   | true =>
    have he : readE S W L true i n = 10 := by unfold readE; rw [if_neg (by simpa using hm), if_neg (by simpa using hr), if_pos rfl]
    repeat' (first | (show Ev _ _ _ _; first | refine Ev_seq ?_ | refine W_reg ?_ | refine Ev_block ?_ | refine W_ifT ?_ | refine W_ifN ?_ | refine Ev_ret ?_) | (show EvD _ _ [] _ _ _; refine W_nil ?_) | (show EvD _ _ (_ :: _) _ _ _; first | refine W_run tok ?_ ?_ | refine W_callee ?_) | (show EvC _ _ _ _ _ _ _ _ _; refine W_con ?_ ?_) | (show RetQ _ _ (RP _ _) _ _; refine R_ret ?_ ?_) | (show FrzTo _ _ _ _; refine F_weak ?_) | refine Q_thenN ?_ | refine Q_thenR ?_ | refine Q_blkR ?_ | fail)
    all_goals (try exact sd)
    all_goals (try refine F_done ?_)
    all_goals (simp [he, bytes])
   | false =>
    have he : readE S W L false i n = 0 := by unfold readE; rw [if_neg (by simpa using hm), if_neg (by simpa using hr), if_neg (by simp)]
    rw [he, if_pos rfl, Int.toNat_natCast, Int.toNat_natCast]
    repeat' (first | (show Ev _ _ _ _; first | refine Ev_seq ?_ | refine W_reg ?_ | refine Ev_block ?_ | refine W_ifF ?_ | refine W_ifN ?_ | refine Ev_skip ?_) | (show EvD _ _ [] _ _ _; refine W_nil ?_) | (show EvD _ _ (_ :: _) _ _ _; first | refine W_run tok ?_ ?_ | refine W_callee ?_) | (show EvC _ _ _ _ _ _ _ _ _; refine W_con ?_ ?_) | refine Q_thenN ?_ | refine Q_blkN ?_ | fail)
    all_goals (try exact sd)
    all_goals (try refine F_done ?_)
    refine Ev_seed 8 5 1 rfl (by decide) (by simp only [List.set_cons_succ, List.set_cons_zero]; exact rfl) ?_
    refine Ev_lp (n) (fun t => [(8, .row σ.rows.length (readS S W i t).length), (9, .int .i64 ((i : Int) + t))]) (fun t => ⟨σ.rows ++ [some ⟨bytes (readS S W i t), 5, 1⟩], σ.boxes ++ [some ⟨25, [.sl (secs S), .sl (pends W), .int .i64 L, .bool false]⟩], σ.maps⟩) [10, 12, 27, 28, 29, 30, 31, 32, 33, 34, 35, 36, 37, 38, 39, 40, 41, 42, 43, 44, 45, 46, 47, 48, 49, 50, 51, 52, 53, 54, 55] ?_ (by simp [readS, bytes]) (fun t hi => ?_)
    ·exact le1
    have hl := readS_len hm i t (by omega)
    by_cases ht' : t < n
    ·have hg := secs_get (S := S) (i := i + t) (by omega)
     have hN : ((i : Int) + (t : Int)).toNat = i + t := by omega
     have hnl := fun k hk => nowN_len hm (i := i + t) (by omega) k hk
     repeat' (first | (show Ev _ _ _ _; first | refine Ev_seq ?_ | refine W_reg ?_ | refine Ev_block ?_ | refine W_ifY ?_ | refine Ev_skip ?_) | (show EvD _ _ [] _ _ _; refine W_nil ?_) | (show EvD _ _ (_ :: _) _ _ _; first | refine W_run tok ?_ ?_ (by simp (maxSteps := 1000000) (disch := omega) only [go_sem, wrap_i64_id, hN, hg]; with_reducible exact rfl)) | refine Q_thenN ?_ | fail)
     all_goals (try exact sd)
     all_goals (try refine F_done ?_)
     refine Ev_lp (W.length) (fun q => [(10, .sl (bytes (nowN S W (i + t) q))), (42, i64 q)]) (fun q => ⟨σ.rows ++ [some ⟨bytes (readS S W i t), 5, 1⟩], σ.boxes ++ [some ⟨25, [.sl (secs S), .sl (pends W), .int .i64 L, .bool false]⟩], σ.maps⟩) [12, 43, 44, 45, 46, 47, 48, 49, 50, 51, 52] ?_ (by first | rfl | (simp only [List.take_zero, List.append_nil]; done)) (fun q hi => ?_)
     ·exact le1
     by_cases hq' : q < W.length
     ·have hgp := pends_get hq'
      by_cases hc : (W.getD q (0, [])).1 = ((i + t : Nat) : Int)
      ·have hc2 : (W.getD q (0, [])).1 = (i : Int) + (t : Int) := by omega
       have hp : nowN S W (i + t) (q + 1) = (W.getD q (0, [])).2 := by rw [nowN, if_pos hc]
       repeat' (first | (show Ev _ _ _ _; first | refine Ev_seq ?_ | refine W_reg ?_ | refine Ev_block ?_ | refine W_ifT ?_ | refine W_ifY ?_ | refine Ev_skip ?_) | (show EvD _ _ [] _ _ _; refine W_nil ?_) | (show EvD _ _ (_ :: _) _ _ _; first | refine W_run tok ?_ ?_ (by simp (maxSteps := 1000000) (disch := omega) only [go_sem, wrap_i64_id, hgp, hc2]; with_reducible exact rfl)) | refine Q_thenN ?_ | refine Q_blkN ?_ | fail)
       all_goals (try exact sd)
       all_goals (try refine F_done ?_)
       refine Q_rndB (A := σ.boxes) (B' := [some ⟨25, [.sl (secs S), .sl (pends W), .int .i64 L, .bool false]⟩]) (rg := []) (mg := []) ?_ (by omega) rfl (by first | rfl | simp only [Nat.reduceAdd]) (by simp only [List.append_nil, List.cons_append, List.nil_append, List.append_assoc, hp, secs_named, pends_named]; exact rfl) (by simp) (by simp [nameds, DV.named, bytes_named, hp, secs_named, pends_named]) (by simp [nameds, DV.named, bytes_named, hp, secs_named, pends_named])
       repeat (first | exact LeL.nil | refine LeL.cons2 ?_ (Le.undef _) | refine LeL.cons2 ?_ (Le.refl _) | refine LeL.cons2 ?_ (Le.sl _) | refine LeL.cons2 ?_ (Le.eq (by first | rfl | exact congrArg _ (by omega))) | refine LeL.cons2 ?_ (Le.eq ?_))
       all_goals (try rw [hp])
      ·have hc2 : ¬ (W.getD q (0, [])).1 = (i : Int) + (t : Int) := by omega
       have hp : nowN S W (i + t) (q + 1) = nowN S W (i + t) q := by rw [nowN, if_neg hc]
       repeat' (first | (show Ev _ _ _ _; first | refine Ev_seq ?_ | refine W_reg ?_ | refine Ev_block ?_ | refine W_ifY ?_ | refine W_ifN ?_ | refine Ev_skip ?_) | (show EvD _ _ [] _ _ _; refine W_nil ?_) | (show EvD _ _ (_ :: _) _ _ _; first | refine W_run tok ?_ ?_ (by simp (maxSteps := 1000000) (disch := omega) only [go_sem, wrap_i64_id, hgp]; with_reducible exact rfl)) | refine Q_thenN ?_ | refine Q_blkN ?_ | fail)
       all_goals (try exact sd)
       all_goals (try refine F_done ?_)
       refine Q_rndB (A := σ.boxes) (B' := [some ⟨25, [.sl (secs S), .sl (pends W), .int .i64 L, .bool false]⟩]) (rg := []) (mg := []) ?_ (by omega) rfl (by first | rfl | simp only [Nat.reduceAdd]) (by simp only [List.append_nil, List.cons_append, List.nil_append, List.append_assoc, hp, secs_named, pends_named]; exact rfl) (by simp) (by simp [nameds, DV.named, bytes_named, hp, secs_named, pends_named]) (by simp [nameds, DV.named, bytes_named, hp, secs_named, pends_named])
       repeat (first | exact LeL.nil | refine LeL.cons2 ?_ (Le.undef _) | refine LeL.cons2 ?_ (Le.refl _) | refine LeL.cons2 ?_ (Le.sl _) | refine LeL.cons2 ?_ (Le.eq (by first | rfl | exact congrArg _ (by omega))) | refine LeL.cons2 ?_ (Le.eq ?_))
       all_goals (try rw [hp])
     ·obtain rfl : q = W.length := by omega
      have hl1 := readS_len hm i (t + 1) (by omega)
      have hnl1 := hnl W.length (Nat.le_refl _)
      have hs : bytes (readS S W i t) ++ bytes (nowN S W (i + t) W.length) = bytes (readS S W i (t + 1)) := by rw [readS_succ, bytes_append]; rfl
      repeat' (first | (show Ev _ _ _ _; first | refine Ev_seq ?_ | refine W_reg ?_ | refine W_ifN ?_ | refine Ev_exit ?_) | (show EvD _ _ [] _ _ _; refine W_nil ?_) | (show EvD _ _ (_ :: _) _ _ _; first | refine W_run tok ?_ ?_ (by simp (maxSteps := 1000000) (disch := omega) only [go_sem, wrap_i64_id, hs]; with_reducible exact rfl)) | refine Q_thenN ?_ | refine Q_thenE ?_ | refine Q_blkN ?_ | refine Q_blkE ?_ | refine Q_rndE ?_ | fail)
      all_goals (try exact sd)
      all_goals (try refine F_done ?_)
      refine Q_rndN ?_ (by omega) ?_
      rotate_left
      ·rfl
      repeat (first | exact LeL.nil | refine LeL.cons2 ?_ (Le.undef _) | refine LeL.cons2 ?_ (Le.refl _) | refine LeL.cons2 ?_ (Le.sl _) | refine LeL.cons2 ?_ (Le.eq (by first | rfl | exact congrArg _ (by omega))) | refine LeL.cons2 ?_ (Le.eq ?_))
      all_goals (first | (rw [hl1, hl, bytes_len, hnl1]; done) | skip)
    ·obtain rfl : t = n := by omega
     repeat' (first | (show Ev _ _ _ _; first | refine Ev_seq ?_ | refine W_reg ?_ | refine W_ifN ?_ | refine Ev_exit ?_ | refine Ev_ret ?_) | (show EvD _ _ [] _ _ _; refine W_nil ?_) | (show EvD _ _ (_ :: _) _ _ _; first | refine W_run tok ?_ ?_ (by simp (maxSteps := 1000000) (disch := omega) only [go_sem, wrap_i64_id, hl]; with_reducible exact rfl)) | (show RetQ _ _ (RP _ _) _ _; refine R_ret ?_ ?_) | (show FrzTo _ _ _ _; refine F_row ?_) | refine Q_thenN ?_ | refine Q_thenE ?_ | refine Q_blkE ?_ | refine Q_rndE ?_ | fail)
     all_goals (try exact sd)
     all_goals (try refine F_done ?_)
     all_goals rfl
  ·have he : readE S W L O i n = 5 := by unfold readE; rw [if_neg (by simpa using hm), if_pos hr]
   have hnr : decide (0 ≤ i ∧ 0 ≤ n ∧ i ≤ S.length ∧ n ≤ S.length - i) = false := decide_eq_false hr
   repeat' (first | (show Ev _ _ _ _; first | refine Ev_seq ?_ | refine W_reg ?_ | refine Ev_block ?_ | refine W_ifT ?_ | refine W_ifN ?_ | refine Ev_ret ?_) | (show EvD _ _ [] _ _ _; refine W_nil ?_) | (show EvD _ _ (_ :: _) _ _ _; first | refine W_run tok ?_ ?_ (by simp (maxSteps := 1000000) (disch := omega) only [go_sem, hnr]; with_reducible exact rfl) | refine W_callee ?_) | (show EvC _ _ _ _ _ _ _ _ _; refine W_con ?_ ?_) | (show RetQ _ _ (RP _ _) _ _; refine R_ret ?_ ?_) | (show FrzTo _ _ _ _; refine F_weak ?_) | refine Q_thenN ?_ | refine Q_thenR ?_ | refine Q_blkR ?_ | fail)
   all_goals (try exact sd)
   all_goals (try refine F_done ?_)
   all_goals (simp [he, bytes])
 ·have he : readE S W L O i n = 1 := by unfold readE; rw [if_pos hm]
  repeat' (first | (show Ev _ _ _ _; first | refine Ev_seq ?_ | refine W_reg ?_ | refine Ev_block ?_ | refine W_ifY ?_ | refine Ev_ret ?_) | (show EvD _ _ [] _ _ _; refine W_nil ?_) | (show EvD _ _ (_ :: _) _ _ _; first | refine W_run tok ?_ ?_ | refine W_callee ?_) | (show EvC _ _ _ _ _ _ _ _ _; refine W_con ?_ ?_) | (show RetQ _ _ (RP _ _) _ _; refine R_ret ?_ ?_) | (show FrzTo _ _ _ _; refine F_weak ?_) | refine Q_thenN ?_ | refine Q_thenR ?_ | refine Q_blkR ?_ | fail)
  all_goals (try exact sd)
  all_goals (try refine F_done ?_)
  all_goals (simp [he, bytes])
instance i_disk_Read (S : List (List UInt8)) (W : List (Int × List UInt8)) (L : Int) (O : Bool) (i n : Int) : Con Try.prog 61 [diskD S W L O, .int .i64 i, .int .i64 n] (szP S W) (.tup [.sl (bytes (if readE S W L O i n = 0 then readS S W i.toNat n.toNat else [])), .int .i64 (readE S W L O i n)]) := ⟨c_disk_Read S  W  L  O  i n ⟩
end Go.Val.Ytlfnmgmbmgacgaa
