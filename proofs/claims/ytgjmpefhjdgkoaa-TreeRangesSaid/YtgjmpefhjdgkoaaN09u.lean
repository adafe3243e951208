/- Chapter 09: what is found in a tree, walked. -/
import Derived.Test.YtgjmpefhjdgkoaaN09s
namespace Go.Val.Ytgjmpefhjdgkoaa
open Go Go.Val Go.Proofs Go.Proofs.Ytgjmpefhjdgkoaa
attribute [local irreducible] Ev EvD EvC thenQ blockQ RoundG RetQ
set_option maxRecDepth 100000
set_option maxHeartbeats 4000000
set_option linter.unusedSimpArgs false
set_option linter.unusedVariables false
def fstK (P : List PairB) (k : List UInt8) : Nat := firstN P.length (fun i => decide (keyAt P i = k))
def fndP (P : List PairB) (k : List UInt8) : List UInt8 × Nat := if fstK P k < P.length then ((P.getD (fstK P k) ([], [])).2, 0) else ([], 7)
def fndT (N : List NodeB) (k : List UInt8) : List UInt8 × Nat × Nat := if rightT N = false then ([], 0, 11) else ((fndP (pairsOf N) k).1, depthT (pairsOf N).length, (fndP (pairsOf N) k).2)
theorem pget2 {P : List PairB} {i : Nat} (h : i < P.length) : ∃ k v, P.getD i ([], []) = (k, v) ∧ (pairsD P).getD i .undef = .agg [.str k, .str v] ∧ keyAt P i = k := by
 obtain ⟨k, v, e, g⟩ := pget (P := P) (i := i) h
 exact ⟨k, v, e, g, by rw [keyAt, e]⟩
theorem c_bursarref09_Find (N : List NodeB) (k : List UInt8) (hC : sizeT N) : Pure Try.prog n_bursarref09_Find [.sl (nodesD N), .str k] (.tup [.str (fndT N k).1, .int .i64 ((fndT N k).2.1 : Nat), .int .i64 ((fndT N k).2.2 : Nat)]) := by
 refine Pure.go tok (rs := [.tmp 4, .tmp 5, .tmp 6]) [.sl (nodesD N), .str k, .undef, .undef, .undef, .undef, .undef, .undef, .undef, .undef, .undef, .undef, .undef, .undef, .undef, .undef, .undef, .undef, .undef, .undef, .undef, .undef, .undef, .undef, .undef, .undef, .undef, .undef, .undef, .undef, .undef, .undef, .undef, .undef, .undef, .undef, .undef, .undef, .undef] Try.func42 (fun σ => ?_)
 have iQ : Con Try.prog 71 [.sl (nodesD N)] True (.sl (pairsD (pairsOf N))) := ⟨fun _ => c_bursarref09_Pairs N hC⟩
 have iR : Con Try.prog 40 [.sl (nodesD N)] True (.bool (rightT N)) := ⟨fun _ => c_bursarref09_Right N hC⟩
 obtain ⟨h1, h2, h3⟩ := hC
 unfold fndT
 by_cases hr : rightT N = false
 ·rw [if_pos hr]
  rw [hr] at iR
  repeat' (first | (show Ev _ _ _ _; first | refine Ev_seq ?_ | refine W_reg ?_ | refine W_ifT ?_ | refine Ev_ret ?_) | (show EvD _ _ [] _ _ _; refine W_nil ?_) | (show EvD _ _ (_ :: _) _ _ _; first | refine W_run tok ?_ ?_ (by simp (maxSteps := 1000000) (disch := omega) only [go_sem, wrap_i64_id]; with_reducible exact rfl) | refine W_callee ?_) | (show EvC _ _ _ _ _ _ _ _ _; refine W_con ?_ ?_) | (show RetQ _ _ (RP _ _) _ _; refine R_ret ?_ ?_) | refine Q_thenN ?_ | refine Q_thenR ?_ | fail)
  all_goals (try exact sd)
  all_goals (try refine F_done ?_)
  all_goals first | rfl | trace_state
 ·rw [if_neg hr]
  rw [Bool.not_eq_false] at hr
  rw [hr] at iR
  generalize pairsOf N = P at *
  have hsP := pairsD_len P
  have iL := i_bursarref09_Levels (P.length : Int)
  rw [Int.toNat_natCast] at iL
  have hl := (kidsD_len (lvsN (nL P.length) (rdC (nL P.length)))).trans (lvsN_len _ _)
  have hd : ((depthT P.length : Nat) : Int) = ((rdC (nL P.length) + 1 : Nat) : Int) := depth_eq P.length
  rw [hd]
  have hd6 := rdC_le (nL P.length)
  generalize kidsD (lvsN (nL P.length) (rdC (nL P.length))) = LL at iL hl
  generalize rdC (nL P.length) + 1 = dk at hl
  obtain ⟨m, hm⟩ : ∃ m, m = fstK P k := ⟨_, rfl⟩
  have hml : m ≤ P.length := hm ▸ firstN_le _ _
  have hlt : ∀ i, i < m → decide (keyAt P i = k) = false := fun i hi => firstN_lt (p := fun i => decide (keyAt P i = k)) (hm ▸ hi)
  have heq : m < P.length → decide (keyAt P m = k) = true := fun h => by
   have := firstN_eq (p := fun i => decide (keyAt P i = k)) (n := P.length) (by rw [hm] at h; exact h)
   rw [hm]; exact this
  unfold fndP
  rw [← hm]
  repeat' (first | (show Ev _ _ _ _; first | refine Ev_seq ?_ | refine W_reg ?_ | refine Ev_block ?_ | refine W_ifF ?_ | refine Ev_skip ?_) | (show EvD _ _ [] _ _ _; refine W_nil ?_) | (show EvD _ _ (_ :: _) _ _ _; first | refine W_run tok ?_ ?_ (by simp (maxSteps := 1000000) (disch := omega) only [go_sem, wrap_i64_id, hl]; with_reducible exact rfl) | refine W_callee ?_) | (show EvC _ _ _ _ _ _ _ _ _; refine W_con ?_ ?_) | refine Q_thenN ?_ | fail)
  all_goals (try exact sd)
  all_goals (try refine F_done ?_)
  refine Ev_lp (m) (fun i => [(9, i64 i)]) (fun i => σ) [4, 5, 6, 19, 20, 21, 22, 23, 24, 25, 26, 27, 28, 29, 30, 31, 32, 33, 34, 35, 36, 37] ?_ (by first | rfl | (simp only [List.take_zero, List.append_nil]; done)) (fun i hi => ?_)
  ·exact le1
  by_cases hi' : i < m
  ·obtain ⟨x, v, hk, g1, hx⟩ := pget2 (P := P) (i := i) (by omega)
   have hb := hlt i hi'
   rw [hx] at hb
   repeat' (first | (show Ev _ _ _ _; first | refine Ev_seq ?_ | refine W_reg ?_ | refine Ev_block ?_ | refine W_ifF ?_ | refine W_ifY ?_ | refine Ev_skip ?_) | (show EvD _ _ [] _ _ _; refine W_nil ?_) | (show EvD _ _ (_ :: _) _ _ _; first | refine W_run tok ?_ ?_ (by simp (maxSteps := 1000000) (disch := omega) only [go_sem, wrap_i64_id, g1, hb]; with_reducible exact rfl)) | refine Q_thenN ?_ | refine Q_blkN ?_ | fail)
   all_goals (try exact sd)
   all_goals (try refine F_done ?_)
   refine Q_rndN ?_ (by omega) ?_
   rotate_left
   ·rfl
   repeat (first | exact LeL.nil | refine LeL.cons2 ?_ (Le.undef _) | refine LeL.cons2 ?_ (Le.refl _) | refine LeL.cons2 ?_ (Le.sl _) | refine LeL.cons2 ?_ (Le.eq (by first | rfl | exact congrArg _ (by omega))) | refine LeL.cons2 ?_ (Le.eq ?_))
   all_goals trace_state
  ·obtain rfl : i = m := by omega
   by_cases hl2 : i < P.length
   ·obtain ⟨x, v, hk, g1, hx⟩ := pget2 (P := P) (i := i) (by omega)
    have hb := heq hl2
    rw [hx] at hb
    rw [if_pos hl2, hk]
    repeat' (first | (show Ev _ _ _ _; first | refine Ev_seq ?_ | refine W_reg ?_ | refine Ev_block ?_ | refine W_ifT ?_ | refine W_ifY ?_ | refine Ev_skip ?_ | refine Ev_ret ?_) | (show EvD _ _ [] _ _ _; refine W_nil ?_) | (show EvD _ _ (_ :: _) _ _ _; first | refine W_run tok ?_ ?_ (by simp (maxSteps := 1000000) (disch := omega) only [go_sem, wrap_i64_id, g1, hb]; with_reducible exact rfl)) | (show RetQ _ _ (RP _ _) _ _; refine R_ret ?_ ?_) | refine Q_thenN ?_ | refine Q_thenR ?_ | refine Q_blkR ?_ | refine Q_rndR ?_ | fail)
    all_goals (try exact sd)
    all_goals (try refine F_done ?_)
    all_goals first | rfl | trace_state
   ·rw [if_neg hl2]
    repeat' (first | (show Ev _ _ _ _; first | refine Ev_seq ?_ | refine W_reg ?_ | refine W_ifN ?_ | refine Ev_exit ?_ | refine Ev_ret ?_) | (show EvD _ _ [] _ _ _; refine W_nil ?_) | (show EvD _ _ (_ :: _) _ _ _; first | refine W_run tok ?_ ?_ (by simp (maxSteps := 1000000) (disch := omega) only [go_sem, wrap_i64_id]; with_reducible exact rfl)) | (show RetQ _ _ (RP _ _) _ _; refine R_ret ?_ ?_) | refine Q_thenN ?_ | refine Q_thenE ?_ | refine Q_blkE ?_ | refine Q_rndE ?_ | fail)
    all_goals (try exact sd)
    all_goals (try refine F_done ?_)
    all_goals first | rfl | trace_state
instance i_bursarref09_Find (N : List NodeB) (k : List UInt8) : Con Try.prog 42 [.sl (nodesD N), .str k] (sizeT N) (.tup [.str (fndT N k).1, .int .i64 ((fndT N k).2.1 : Nat), .int .i64 ((fndT N k).2.2 : Nat)]) := ⟨c_bursarref09_Find N  k ⟩
theorem at_sortS : FnAt Try.prog 72 := ⟨_, _, Try.func72, rfl, by simp [Try.f72]⟩
instance fnc_sortS : FnC Try.prog 72 := ⟨at_sortS⟩
def schT (p : Nat → Bool) (q : Nat × Nat) : Nat × Nat := if p ((q.1 + q.2) / 2) = true then (q.1, (q.1 + q.2) / 2) else ((q.1 + q.2) / 2 + 1, q.2)
def schS (p : Nat → Bool) (s : Nat × Nat) : Nat → Nat × Nat
 | 0 => s
 | i + 1 => schT p (schS p s i)
theorem schS_front (p : Nat → Bool) (s : Nat × Nat) : ∀ i, schS p s (i + 1) = schS p (schT p s) i
 | 0 => rfl
 | i + 1 => by rw [schS, schS_front p s i, schS]
theorem sch_ok {p : Nat → Bool} {n F : Nat} (h1 : ∀ i, i < F → p i = false) (h2 : ∀ i, F ≤ i → i < n → p i = true) : ∀ (d lo hi : Nat), hi - lo ≤ d → lo ≤ F → F ≤ hi → hi ≤ n →
  ∃ m, m ≤ d ∧ (∀ i, i < m → (schS p (lo, hi) i).1 < (schS p (lo, hi) i).2 ∧ (schS p (lo, hi) i).2 ≤ n) ∧ schS p (lo, hi) m = (F, F)
 | 0, lo, hi, hd, a, b, c => ⟨0, Nat.le_refl _, fun i hi => by omega, by rw [schS, show lo = F by omega, show hi = F by omega]⟩
 | d + 1, lo, hi, hd, a, b, c => by
  by_cases hl : lo < hi
  ·by_cases hp : p ((lo + hi) / 2) = true
   ·have hF : F ≤ (lo + hi) / 2 := by
     rcases Nat.lt_or_ge ((lo + hi) / 2) F with h | h
     ·rw [h1 _ h] at hp; cases hp
     ·exact h
    obtain ⟨m, e1, e2, e3⟩ := sch_ok h1 h2 d lo ((lo + hi) / 2) (by omega) a hF (by omega)
    have hs : schT p (lo, hi) = (lo, (lo + hi) / 2) := by simp only [schT, hp, if_true]
    refine ⟨m + 1, by omega, fun i hi' => ?_, by rw [schS_front, hs]; exact e3⟩
    rcases i with _ | i
    ·exact ⟨hl, c⟩
    ·rw [schS_front, hs]; exact e2 i (by omega)
   ·have hF : (lo + hi) / 2 < F := by
     rcases Nat.lt_or_ge ((lo + hi) / 2) F with h | h
     ·exact h
     ·exact absurd (h2 _ h (by omega)) hp
    obtain ⟨m, e1, e2, e3⟩ := sch_ok h1 h2 d ((lo + hi) / 2 + 1) hi (by omega) (by omega) b c
    have hs : schT p (lo, hi) = ((lo + hi) / 2 + 1, hi) := by simp only [schT, hp]; rfl
    refine ⟨m + 1, by omega, fun i hi' => ?_, by rw [schS_front, hs]; exact e3⟩
    rcases i with _ | i
    ·exact ⟨hl, c⟩
    ·rw [schS_front, hs]; exact e2 i (by omega)
  ·exact ⟨0, Nat.zero_le _, fun i hi => by omega, by rw [schS, show lo = F by omega, show hi = F by omega]⟩
theorem c_Find1 (R : List (Option Row)) (bx : List (Option Box)) (ms : List (Option (List (DV × DV)))) (P : List PairB) (K : List (List UInt8)) (C : List Int) (k : List UInt8) (i : Nat) (hl : K.length < 1099511627776) (hi : i < K.length) :
  Does Try.prog n_tree_Find_1 [.int .i64 i, .ptr (bx.length + 1) 0, .cp [.str k]] ⟨R, bx ++ [none, some ⟨42, [.sl (pairsD P), .sl (strsD K), .sl (kidsD C)]⟩], ms⟩ (one (.bool (gtB (K.getD i []) k)) ⟨R, bx ++ [none, some ⟨42, [.sl (pairsD P), .sl (strsD K), .sl (kidsD C)]⟩], ms⟩) := by
 have hsK := strsD_len K
 have g1 := strsD_get (K := K) (i := i) hi
 refine Does.go tok (rs := [.tmp 4]) [.int .i64 i, .ptr (bx.length + 1) 0, .cp [.str k], .undef, .undef, .undef, .undef, .undef, .undef, .undef, .undef, .undef] Try.func73 ?_
 repeat' (first | (show Ev _ (.region _ _ true) _ _; refine D_startE [50, 51, 76, 78, 82, 90, 92] mix ?_) | (show DrD _ _ _ [] _ _ _ _; refine D_nil ?_; try dsimp only) | (show DrD _ (ES _) _ (_ :: _) _ _ _ _; first | refine D_runLE tok ?_ ?_ (h := by simp (maxSteps := 1000000) (disch := omega) only [go_sem, wrap_i64_id, g1]; with_reducible exact rfl)) | (show Ev _ _ _ _; first | refine Ev_seq ?_ | refine W_reg ?_ | refine Ev_ret ?_) | (show EvD _ _ [] _ _ _; refine W_nil ?_) | (show EvD _ _ (_ :: _) _ _ _; first | refine W_run tok ?_ ?_ (by simp (maxSteps := 1000000) (disch := omega) only [go_sem, wrap_i64_id, g1]; with_reducible exact rfl)) | refine Q_thenN ?_ | fail)
 all_goals (try exact sd)
 all_goals (try refine F_done ?_)
 refine R_does ?_ rfl ?_
 ·rfl
 ·exact trivial
theorem c_Search (R : List (Option Row)) (bx : List (Option Box)) (ms : List (Option (List (DV × DV)))) (P : List PairB) (K : List (List UInt8)) (C : List Int) (k : List UInt8) (hl : K.length ≤ 1000) (hm : ∀ i j, i ≤ j → j < K.length → gtB (K.getD i []) k = true → gtB (K.getD j []) k = true) :
  Does Try.prog n_sort_Search [.int .i64 K.length, .fn (.func 73) [] [.ptr (bx.length + 1) 0, .cp [.str k]]] ⟨R, bx ++ [none, some ⟨42, [.sl (pairsD P), .sl (strsD K), .sl (kidsD C)]⟩], ms⟩ (one (.int .i64 (firstN K.length (fun i => gtB (K.getD i []) k) : Nat)) ⟨R, bx ++ [none, some ⟨42, [.sl (pairsD P), .sl (strsD K), .sl (kidsD C)]⟩], ms⟩) := by
 obtain ⟨p, hp⟩ : ∃ p : Nat → Bool, p = fun i => gtB (K.getD i []) k := ⟨_, rfl⟩
 obtain ⟨F, hF⟩ : ∃ F, F = firstN K.length p := ⟨_, rfl⟩
 have hFl : F ≤ K.length := hF ▸ firstN_le _ _
 obtain ⟨m, m1, m2, m3⟩ := sch_ok (p := p) (n := K.length) (F := F) (fun i hi => firstN_lt (hF ▸ hi)) (fun i h1 h2 => by
  have h3 : p F = true := by
   have := firstN_eq (n := K.length) (p := p) (by omega)
   rwa [← hF] at this
  rw [hp] at h3 ⊢
  exact hm F i h1 h2 h3) K.length 0 K.length (by omega) (Nat.zero_le _) hFl (Nat.le_refl _)
 rw [← hp, ← hF]
 refine Does.go tok (rs := [.tmp 4]) [.int .i64 K.length, .fn (.func 73) [] [.ptr (bx.length + 1) 0, .cp [.str k]], .undef, .undef, .undef, .undef, .undef, .undef, .undef, .undef, .undef, .undef, .undef, .undef, .undef, .undef, .undef, .undef, .undef, .undef, .undef, .undef, .undef, .undef, .undef, .undef] Try.func72 ?_
 repeat' (first | (show Ev _ _ _ _; first | refine Ev_seq ?_ | refine W_reg ?_ | refine Ev_block ?_) | (show EvD _ _ [] _ _ _; refine W_nil ?_) | (show EvD _ _ (_ :: _) _ _ _; first | refine W_run tok ?_ ?_ (by simp (maxSteps := 1000000) (disch := omega) only [go_sem, wrap_i64_id]; with_reducible exact rfl)) | refine Q_thenN ?_ | fail)
 all_goals (try exact sd)
 all_goals (try refine F_done ?_)
 refine Ev_lp (m) (fun i => [(5, i64 (schS p (0, K.length) i).1), (6, i64 (schS p (0, K.length) i).2)]) (fun i => ⟨R, bx ++ [none, some ⟨42, [.sl (pairsD P), .sl (strsD K), .sl (kidsD C)]⟩], ms⟩) [7, 9, 10, 11, 12, 13, 14, 15, 16, 17, 18, 19, 20, 21, 22, 23, 24] ?_ (by first | rfl | (simp only [List.take_zero, List.append_nil]; done)) (fun i hi => ?_)
 ·exact le1
 by_cases hi' : i < m
 ·obtain ⟨l1, l2⟩ := m2 i hi'
  have hs : schS p (0, K.length) (i + 1) = schT p (schS p (0, K.length) i) := rfl
  obtain ⟨⟨lo, up⟩, hq⟩ : ∃ q, q = schS p (0, K.length) i := ⟨_, rfl⟩
  rw [← hq] at l1 l2 hs ⊢
  simp only at l1 l2 ⊢
  have hD := c_Find1 R bx ms P K C k ((lo + up) / 2) (by omega) (by omega)
  rw [show gtB (K.getD ((lo + up) / 2) []) k = p ((lo + up) / 2) by rw [hp]] at hD
  have es : Int.fdiv ((lo : Int) + (up : Int)) (2 ^ 1) = (((lo + up) / 2 : Nat) : Int) := by
   rw [show (2 : Int) ^ 1 = 2 from rfl, Int.fdiv_eq_ediv_of_nonneg _ (by decide)]; omega
  by_cases hpp : p ((lo + up) / 2) = true
  ·rw [hpp] at hD
   have hs' : schS p (0, K.length) (i + 1) = (lo, (lo + up) / 2) := by rw [hs]; simp only [schT, hpp, if_true]
   repeat' (first | (show Ev _ _ _ _; first | refine Ev_seq ?_ | refine W_reg ?_ | refine Ev_block ?_ | refine W_ifY ?_ | refine Ev_skip ?_) | (show EvD _ _ [] _ _ _; refine W_nil ?_) | (show EvD _ _ (_ :: _) _ _ _; first | refine W_run tok ?_ ?_ (by simp (maxSteps := 1000000) (disch := omega) only [go_sem, wrap_i64_id, wrap_u64_id, es]; with_reducible exact rfl) | refine W_callee ?_) | refine Q_thenN ?_ | fail)
   all_goals (try exact sd)
   all_goals (try refine F_done ?_)
   refine W_does hD ?_
   repeat' (first | (show Ev _ _ _ _; first | refine W_reg ?_ | refine W_ifF ?_) | (show EvD _ _ [] _ _ _; refine W_nil ?_) | (show EvD _ _ (_ :: _) _ _ _; first | refine W_run tok ?_ ?_ (by simp (maxSteps := 1000000) (disch := omega) only [go_sem, wrap_i64_id]; with_reducible exact rfl)) | refine Q_thenN ?_ | refine Q_blkN ?_ | fail)
   all_goals (try exact sd)
   all_goals (try refine F_done ?_)
   refine Q_rndN ?_ (by omega) ?_
   rotate_left
   ·rfl
   repeat (first | exact LeL.nil | refine LeL.cons2 ?_ (Le.undef _) | refine LeL.cons2 ?_ (Le.refl _) | refine LeL.cons2 ?_ (Le.sl _) | refine LeL.cons2 ?_ (Le.eq (by first | rfl | exact congrArg _ (by omega))) | refine LeL.cons2 ?_ (Le.eq ?_))
   all_goals first | rw [hs'] | trace_state
  ·rw [Bool.not_eq_true] at hpp
   rw [hpp] at hD
   have hs' : schS p (0, K.length) (i + 1) = ((lo + up) / 2 + 1, up) := by rw [hs]; simp only [schT, hpp]; rfl
   repeat' (first | (show Ev _ _ _ _; first | refine Ev_seq ?_ | refine W_reg ?_ | refine Ev_block ?_ | refine W_ifY ?_ | refine Ev_skip ?_) | (show EvD _ _ [] _ _ _; refine W_nil ?_) | (show EvD _ _ (_ :: _) _ _ _; first | refine W_run tok ?_ ?_ (by simp (maxSteps := 1000000) (disch := omega) only [go_sem, wrap_i64_id, wrap_u64_id, es]; with_reducible exact rfl) | refine W_callee ?_) | refine Q_thenN ?_ | fail)
   all_goals (try exact sd)
   all_goals (try refine F_done ?_)
   refine W_does hD ?_
   repeat' (first | (show Ev _ _ _ _; first | refine W_reg ?_ | refine W_ifT ?_) | (show EvD _ _ [] _ _ _; refine W_nil ?_) | (show EvD _ _ (_ :: _) _ _ _; first | refine W_run tok ?_ ?_ (by simp (maxSteps := 1000000) (disch := omega) only [go_sem, wrap_i64_id]; with_reducible exact rfl)) | refine Q_thenN ?_ | refine Q_blkN ?_ | fail)
   all_goals (try exact sd)
   all_goals (try refine F_done ?_)
   refine Q_rndN ?_ (by omega) ?_
   rotate_left
   ·rfl
   repeat (first | exact LeL.nil | refine LeL.cons2 ?_ (Le.undef _) | refine LeL.cons2 ?_ (Le.refl _) | refine LeL.cons2 ?_ (Le.sl _) | refine LeL.cons2 ?_ (Le.eq (by first | rfl | exact congrArg _ (by omega))) | refine LeL.cons2 ?_ (Le.eq ?_))
   all_goals first | (rw [hs']; exact congrArg (DV.int .i64) (by show _ = (((lo + up) / 2 + 1 : Nat) : Int); omega)) | (rw [hs']; done) | trace_state
 ·obtain rfl : i = m := by omega
  rw [m3]
  repeat' (first | (show Ev _ _ _ _; first | refine Ev_seq ?_ | refine W_reg ?_ | refine W_ifN ?_ | refine Ev_exit ?_ | refine Ev_ret ?_) | (show EvD _ _ [] _ _ _; refine W_nil ?_) | (show EvD _ _ (_ :: _) _ _ _; first | refine W_run tok ?_ ?_ (by simp (maxSteps := 1000000) (disch := omega) only [go_sem, wrap_i64_id]; with_reducible exact rfl)) | refine Q_thenN ?_ | refine Q_thenE ?_ | refine Q_blkE ?_ | refine Q_rndE ?_ | fail)
  all_goals (try exact sd)
  all_goals (try refine F_done ?_)
  refine R_does ?_ rfl ?_
  ·rfl
  ·exact trivial
end Go.Val.Ytgjmpefhjdgkoaa
