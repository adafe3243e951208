/- Chapter 09: how many pages, and levels, so many pairs have, walked. -/
import Derived.Test.YtgjmpefhjdgkoaaN09b
import Derived.Test.YtgjmpefhjdgkoaaN08b
namespace Go.Val.Ytgjmpefhjdgkoaa
open Go Go.Val Go.Proofs Go.Proofs.Ytgjmpefhjdgkoaa
attribute [local irreducible] Ev EvD EvC thenQ blockQ RoundG RetQ
set_option maxRecDepth 100000
set_option maxHeartbeats 4000000
set_option linter.unusedSimpArgs false
set_option linter.unusedVariables false
def nL (n : Nat) : Nat := max 1 ((n + 4) / 5)
def lvN (c : Nat) : Nat → Nat
 | 0 => c
 | i + 1 => (lvN c i + 7) / 8
def rdC (c : Nat) : Nat := firstN 4 (fun i => decide (lvN c i ≤ 1))
def sumL (c : Nat) : Nat → Nat
 | 0 => c
 | i + 1 => sumL c i + lvN c (i + 1)
theorem nL_pos (n : Nat) : 1 ≤ nL n := by unfold nL; omega
theorem nL_le {n : Nat} (h : n ≤ 3000) : nL n ≤ 600 := by unfold nL; omega
theorem lvN_le {c : Nat} (h : c ≤ 600) : ∀ i, lvN c i ≤ 600
 | 0 => h
 | i + 1 => by have := lvN_le h i; simp only [lvN]; omega
theorem lvN_pos {c : Nat} (h : 1 ≤ c) : ∀ i, 1 ≤ lvN c i
 | 0 => h
 | i + 1 => by have := lvN_pos h i; simp only [lvN]; omega
theorem rdC_le (c : Nat) : rdC c ≤ 4 := firstN_le _ _
theorem rdC_lt {c i : Nat} (h : i < rdC c) : 1 < lvN c i := by have := firstN_lt h; simpa using this
theorem rdC_end {c : Nat} (h : c ≤ 600) : lvN c (rdC c) ≤ 1 := by
 by_cases hl : rdC c < 4
 ·have := firstN_eq hl; simpa [rdC] using this
 ·have e : rdC c = 4 := by have := rdC_le c; omega
  rw [e]
  simp only [lvN]; omega
theorem sumL_le {c : Nat} (h : c ≤ 600) : ∀ i, sumL c i ≤ 600 * (i + 1)
 | 0 => by simp only [sumL]; omega
 | i + 1 => by have := sumL_le h i; have := lvN_le h (i + 1); simp only [sumL]; omega
def pagesT (n : Nat) : Nat := sumL (nL n) (rdC (nL n))
def depthT (n : Nat) : Nat := 1 + rdC (nL n)
theorem max0 (n : Int) : (if (0 : Int) > n then 0 else n) = (n.toNat : Int) := by split <;> omega
theorem tdiv5 (k : Nat) : Int.tdiv ((k : Int) - 1) 5 = (((k - 1) / 5 : Nat) : Int) := by
 rcases Nat.eq_zero_or_pos k with rfl | hn
 ·decide
 ·rw [show (k : Int) - 1 = ((k - 1 : Nat) : Int) by omega]; rfl
theorem lvl0 (k : Nat) : (if (((k - 1) / 5 : Nat) : Int) + 1 > 1 then (((k - 1) / 5 : Nat) : Int) + 1 else 1) = (nL k : Int) := by
 unfold nL
 split <;> omega
theorem tdiv8 (c : Nat) (h : 1 ≤ c) : Int.tdiv ((c : Int) - 1) 8 = (((c - 1) / 8 : Nat) : Int) := by
 rw [show (c : Int) - 1 = ((c - 1 : Nat) : Int) by omega]; rfl
theorem up8 (c : Nat) (h : 1 ≤ c) : (((c - 1) / 8 : Nat) : Int) + 1 = (((c + 7) / 8 : Nat) : Int) := by omega
theorem c_tree_Pages (n : Int) (hC : n ≤ 3000 ∧ -9223372036854775808 ≤ n) : Pure Try.prog n_tree_Pages [.int .i64 n] (.int .i64 (pagesT n.toNat : Nat)) := by
 refine Pure.go tok (rs := [.tmp 2]) [.int .i64 n, .undef, .undef, .undef, .undef, .undef, .undef, .undef, .undef, .undef, .undef, .undef, .undef, .undef, .undef, .undef, .undef, .undef, .undef, .undef, .undef, .undef] Try.func16 (fun σ => ?_)
 have h1 := max0 n
 obtain ⟨k, hk⟩ : ∃ k, k = n.toNat := ⟨_, rfl⟩
 have hk3 : k ≤ 3000 := by omega
 rw [← hk] at h1 ⊢
 have hn1 := nL_pos k
 have hn2 := nL_le hk3
 have h5 := tdiv5 k
 have h0 := lvl0 k
 unfold pagesT
 obtain ⟨c, hc⟩ : ∃ c, c = nL k := ⟨_, rfl⟩
 rw [← hc] at hn1 hn2 h0 ⊢
 repeat' (first | (show Ev _ _ _ _; first | refine Ev_seq ?_ | refine W_reg ?_ | refine Ev_block ?_) | (show EvD _ _ [] _ _ _; refine W_nil ?_) | (show EvD _ _ (_ :: _) _ _ _; first | refine W_run tok ?_ ?_ (by simp (maxSteps := 1000000) (disch := omega) only [go_sem, wrap_i64_id, h1, h5, h0]; with_reducible exact rfl)) | refine Q_thenN ?_ | fail)
 all_goals (try exact sd)
 all_goals (try refine F_done ?_)
 obtain ⟨m, hm⟩ : ∃ m, m = rdC c := ⟨_, rfl⟩
 have hm4 : m ≤ 4 := hm ▸ rdC_le c
 have hend : lvN c m ≤ 1 := hm ▸ rdC_end hn2
 rw [← hm]
 refine Ev_lp (m) (fun i => [(3, i64 (lvN c i)), (4, i64 (sumL c i))]) (fun i => σ) [12, 13, 14, 15, 16, 17, 18, 19, 20] ?_ (by first | rfl | (simp only [List.take_zero, List.append_nil]; done)) (fun i hi => ?_)
 ·exact le1
 have b1 := lvN_le hn2 i
 have b2 := lvN_pos hn1 i
 have b3 := sumL_le hn2 i
 by_cases hi' : i < m
 ·have hg := rdC_lt (hm ▸ hi')
  have h8 := tdiv8 (lvN c i) b2
  have hu := up8 (lvN c i) b2
  repeat' (first | (show Ev _ _ _ _; first | refine Ev_seq ?_ | refine W_reg ?_ | refine Ev_block ?_ | refine W_ifY ?_ | refine Ev_skip ?_) | (show EvD _ _ [] _ _ _; refine W_nil ?_) | (show EvD _ _ (_ :: _) _ _ _; first | refine W_run tok ?_ ?_ (by simp (maxSteps := 1000000) (disch := omega) only [go_sem, wrap_i64_id, h8, hu]; with_reducible exact rfl)) | refine Q_thenN ?_ | refine Q_blkN ?_ | fail)
  all_goals (try exact sd)
  all_goals (try refine F_done ?_)
  refine Q_rndN ?_ (by omega) ?_
  rotate_left
  ·rfl
  repeat (first | exact LeL.nil | refine LeL.cons2 ?_ (Le.undef _) | refine LeL.cons2 ?_ (Le.refl _) | refine LeL.cons2 ?_ (Le.sl _) | refine LeL.cons2 ?_ (Le.eq (by first | rfl | exact congrArg _ (by omega))) | refine LeL.cons2 ?_ (Le.eq ?_))
 ·obtain rfl : i = m := by omega
  repeat' (first | (show Ev _ _ _ _; first | refine Ev_seq ?_ | refine W_reg ?_ | refine W_ifN ?_ | refine Ev_exit ?_ | refine Ev_ret ?_) | (show EvD _ _ [] _ _ _; refine W_nil ?_) | (show EvD _ _ (_ :: _) _ _ _; first | refine W_run tok ?_ ?_ (by simp (maxSteps := 1000000) (disch := omega) only [go_sem, wrap_i64_id]; with_reducible exact rfl)) | (show RetQ _ _ (RP _ _) _ _; refine R_ret ?_ ?_) | refine Q_thenN ?_ | refine Q_thenE ?_ | refine Q_blkE ?_ | refine Q_rndE ?_ | fail)
  all_goals (try exact sd)
  all_goals (try refine F_done ?_)
  all_goals rfl
instance i_tree_Pages (n : Int) : Con Try.prog 16 [.int .i64 n] (n ≤ 3000 ∧ -9223372036854775808 ≤ n) (.int .i64 (pagesT n.toNat : Nat)) := ⟨c_tree_Pages n ⟩
theorem c_tree_Depth (n : Int) (hC : n ≤ 3000 ∧ -9223372036854775808 ≤ n) : Pure Try.prog n_tree_Depth [.int .i64 n] (.int .i64 (depthT n.toNat : Nat)) := by
 refine Pure.go tok (rs := [.tmp 2]) [.int .i64 n, .undef, .undef, .undef, .undef, .undef, .undef, .undef, .undef, .undef, .undef, .undef, .undef, .undef, .undef, .undef, .undef, .undef, .undef, .undef] Try.func18 (fun σ => ?_)
 have h1 := max0 n
 obtain ⟨k, hk⟩ : ∃ k, k = n.toNat := ⟨_, rfl⟩
 have hk3 : k ≤ 3000 := by omega
 rw [← hk] at h1 ⊢
 have hn1 := nL_pos k
 have hn2 := nL_le hk3
 have h5 := tdiv5 k
 have h0 := lvl0 k
 unfold depthT
 obtain ⟨c, hc⟩ : ∃ c, c = nL k := ⟨_, rfl⟩
 rw [← hc] at hn1 hn2 h0 ⊢
 repeat' (first | (show Ev _ _ _ _; first | refine Ev_seq ?_ | refine W_reg ?_ | refine Ev_block ?_) | (show EvD _ _ [] _ _ _; refine W_nil ?_) | (show EvD _ _ (_ :: _) _ _ _; first | refine W_run tok ?_ ?_ (by simp (maxSteps := 1000000) (disch := omega) only [go_sem, wrap_i64_id, h1, h5, h0]; with_reducible exact rfl)) | refine Q_thenN ?_ | fail)
 all_goals (try exact sd)
 all_goals (try refine F_done ?_)
 obtain ⟨m, hm⟩ : ∃ m, m = rdC c := ⟨_, rfl⟩
 have hm4 : m ≤ 4 := hm ▸ rdC_le c
 have hend : lvN c m ≤ 1 := hm ▸ rdC_end hn2
 rw [← hm]
 refine Ev_lp (m) (fun i => [(3, i64 (lvN c i)), (4, i64 (1 + i : Nat))]) (fun i => σ) [11, 12, 13, 14, 15, 16, 17, 18] ?_ (by first | rfl | (simp only [List.take_zero, List.append_nil]; done)) (fun i hi => ?_)
 ·exact le1
 have b1 := lvN_le hn2 i
 have b2 := lvN_pos hn1 i
 by_cases hi' : i < m
 ·have hg := rdC_lt (hm ▸ hi')
  have h8 := tdiv8 (lvN c i) b2
  have hu := up8 (lvN c i) b2
  repeat' (first | (show Ev _ _ _ _; first | refine Ev_seq ?_ | refine W_reg ?_ | refine Ev_block ?_ | refine W_ifY ?_ | refine Ev_skip ?_) | (show EvD _ _ [] _ _ _; refine W_nil ?_) | (show EvD _ _ (_ :: _) _ _ _; first | refine W_run tok ?_ ?_ (by simp (maxSteps := 1000000) (disch := omega) only [go_sem, wrap_i64_id, h8, hu]; with_reducible exact rfl)) | refine Q_thenN ?_ | refine Q_blkN ?_ | fail)
  all_goals (try exact sd)
  all_goals (try refine F_done ?_)
  refine Q_rndN ?_ (by omega) ?_
  rotate_left
  ·rfl
  repeat (first | exact LeL.nil | refine LeL.cons2 ?_ (Le.undef _) | refine LeL.cons2 ?_ (Le.refl _) | refine LeL.cons2 ?_ (Le.sl _) | refine LeL.cons2 ?_ (Le.eq (by first | rfl | exact congrArg _ (by omega))) | refine LeL.cons2 ?_ (Le.eq ?_))
 ·obtain rfl : i = m := by omega
  repeat' (first | (show Ev _ _ _ _; first | refine Ev_seq ?_ | refine W_reg ?_ | refine W_ifN ?_ | refine Ev_exit ?_ | refine Ev_ret ?_) | (show EvD _ _ [] _ _ _; refine W_nil ?_) | (show EvD _ _ (_ :: _) _ _ _; first | refine W_run tok ?_ ?_ (by simp (maxSteps := 1000000) (disch := omega) only [go_sem, wrap_i64_id]; with_reducible exact rfl)) | (show RetQ _ _ (RP _ _) _ _; refine R_ret ?_ ?_) | refine Q_thenN ?_ | refine Q_thenE ?_ | refine Q_blkE ?_ | refine Q_rndE ?_ | fail)
  all_goals (try exact sd)
  all_goals (try refine F_done ?_)
  all_goals rfl
instance i_tree_Depth (n : Int) : Con Try.prog 18 [.int .i64 n] (n ≤ 3000 ∧ -9223372036854775808 ≤ n) (.int .i64 (depthT n.toNat : Nat)) := ⟨c_tree_Depth n ⟩
theorem nL_5 (k : Nat) : k ≤ 5 * nL k := by unfold nL; omega
theorem nL_mid {k i : Nat} (h : i + 1 < nL k) : 5 * (i + 1) < k := by unfold nL at h; omega
theorem up_8 (c : Nat) : c ≤ 8 * ((c + 7) / 8) := by omega
theorem up_mid {c i : Nat} (h : i + 1 < (c + 7) / 8) : 8 * (i + 1) < c := by omega
def lvsN (c m : Nat) : List Int := (List.range (m + 1)).map fun i => (lvN c i : Int)
theorem lvsN_len (c m : Nat) : (lvsN c m).length = m + 1 := by simp [lvsN]
theorem lvsN_succ (c m : Nat) : kidsD (lvsN c m) ++ [.int .i64 (lvN c (m + 1) : Int)] = kidsD (lvsN c (m + 1)) := by simp [lvsN, kidsD, List.range_succ]
theorem lvsN_get {c m i : Nat} (h : i < m + 1) : (kidsD (lvsN c m)).getD i .undef = .int .i64 (lvN c i : Int) := by
 simp [lvsN, kidsD, List.getD_eq_getElem?_getD, List.getElem?_map, List.getElem?_range h]
def sumP (c : Nat) : Nat → Nat
 | 0 => 0
 | i + 1 => sumP c i + lvN c i
theorem sumP_sumL (c : Nat) : ∀ m, sumP c (m + 1) = sumL c m
 | 0 => by simp [sumP, sumL, lvN]
 | m + 1 => by
  have := sumP_sumL c m
  show sumP c (m + 1) + lvN c (m + 1) = sumL c m + lvN c (m + 1)
  rw [this]
theorem sumP_le {c : Nat} (h : c ≤ 600) : ∀ i, sumP c i ≤ 600 * i
 | 0 => by simp only [sumP]; omega
 | i + 1 => by have := sumP_le h i; have := lvN_le h i; simp only [sumP]; omega
def b9 (n c : Nat) : Nat → DV
 | 0 => .slt [.int .i64 (c : Int)]
 | i + 1 => .row n (i + 2)
def r9 (c : Nat) : Nat → List (Option Row)
 | 0 => []
 | i + 1 => [some ⟨kidsD (lvsN c (i + 1)), 3, 1⟩]
theorem c_bursarref09_Levels (n : Int) (hC : n ≤ 3000 ∧ -9223372036854775808 ≤ n) : Pure Try.prog n_bursarref09_Levels [.int .i64 n] (.sl (kidsD (lvsN (nL n.toNat) (rdC (nL n.toNat))))) := by
 refine Pure.go tok (rs := [.tmp 2]) [.int .i64 n, .undef, .undef, .undef, .undef, .undef, .undef, .undef, .undef, .undef, .undef, .undef, .undef, .undef, .undef, .undef, .undef, .undef, .undef, .undef, .undef, .undef, .undef, .undef, .undef, .undef, .undef, .undef] Try.func19 (fun σ => ?_)
 obtain ⟨k, hk⟩ : ∃ k, k = n.toNat := ⟨_, rfl⟩
 have hk3 : k ≤ 3000 := by omega
 rw [← hk]
 have hn1 := nL_pos k
 have hn2 := nL_le hk3
 have hn5 := nL_5 k
 have hn6 := fun i => nL_mid (k := k) (i := i)
 obtain ⟨c, hc⟩ : ∃ c, c = nL k := ⟨_, rfl⟩
 rw [← hc] at hn1 hn2 hn5 hn6 ⊢
 repeat' (first | (show Ev _ _ _ _; first | refine Ev_seq ?_ | refine W_reg ?_ | refine Ev_block ?_) | (show EvD _ _ [] _ _ _; refine W_nil ?_) | (show EvD _ _ (_ :: _) _ _ _; first | refine W_run tok ?_ ?_ (by simp (maxSteps := 1000000) (disch := omega) only [go_sem, wrap_i64_id]; with_reducible exact rfl)) | refine Q_thenN ?_ | fail)
 all_goals (try exact sd)
 all_goals (try refine F_done ?_)
 refine Ev_lp (c - 1) (fun i => [(3, i64 (1 + i : Nat))]) (fun i => σ) [6, 7, 8, 9, 10, 11] ?_ (by first | rfl | (simp only [List.take_zero, List.append_nil]; done)) (fun i hi => ?_)
 ·exact le1
 by_cases hi' : i < c - 1
 ·have := hn6 i (by omega)
  repeat' (first | (show Ev _ _ _ _; first | refine Ev_seq ?_ | refine W_reg ?_ | refine Ev_block ?_ | refine W_ifY ?_ | refine Ev_skip ?_) | (show EvD _ _ [] _ _ _; refine W_nil ?_) | (show EvD _ _ (_ :: _) _ _ _; first | refine W_run tok ?_ ?_ (by simp (maxSteps := 1000000) (disch := omega) only [go_sem, wrap_i64_id]; with_reducible exact rfl)) | refine Q_thenN ?_ | refine Q_blkN ?_ | fail)
  all_goals (try exact sd)
  all_goals (try refine F_done ?_)
  refine Q_rndN ?_ (by omega) ?_
  rotate_left
  ·rfl
  repeat (first | exact LeL.nil | refine LeL.cons2 ?_ (Le.undef _) | refine LeL.cons2 ?_ (Le.refl _) | refine LeL.cons2 ?_ (Le.sl _) | refine LeL.cons2 ?_ (Le.eq (by first | rfl | exact congrArg _ (by omega))) | refine LeL.cons2 ?_ (Le.eq ?_))
 ·obtain rfl : i = c - 1 := by omega
  have e1 : 1 + (c - 1) = c := by omega
  rw [e1]
  repeat' (first | (show Ev _ _ _ _; first | refine Ev_seq ?_ | refine W_reg ?_ | refine Ev_block ?_ | refine W_ifN ?_ | refine Ev_exit ?_) | (show EvD _ _ [] _ _ _; refine W_nil ?_) | (show EvD _ _ (_ :: _) _ _ _; first | refine W_run tok ?_ ?_ (by simp (maxSteps := 1000000) (disch := omega) only [go_sem, wrap_i64_id]; with_reducible exact rfl)) | refine Q_thenN ?_ | refine Q_thenE ?_ | refine Q_blkE ?_ | refine Q_rndE ?_ | fail)
  all_goals (try exact sd)
  all_goals (try refine F_done ?_)
  obtain ⟨m, hm⟩ : ∃ m, m = rdC c := ⟨_, rfl⟩
  have hm4 : m ≤ 4 := hm ▸ rdC_le c
  have hend : lvN c m ≤ 1 := hm ▸ rdC_end hn2
  rw [← hm]
  refine Ev_lp (m) (fun i => [(3, i64 (lvN c i)), (4, b9 σ.rows.length c i)]) (fun i => ⟨σ.rows ++ r9 c i, σ.boxes, σ.maps⟩) [5, 14, 15, 16, 17, 18, 19, 20, 21, 22, 23, 24, 25, 26] ?_ (by simp only [r9, List.append_nil]) (fun i hi => ?_)
  ·exact le1
  have b1 := lvN_le hn2 i
  have b2 := lvN_pos hn1 i
  by_cases hi' : i < m
  ·have hg := rdC_lt (hm ▸ hi')
   have hu8 := up_8 (lvN c i)
   have hum := fun j => up_mid (c := lvN c i) (i := j)
   have hup : (lvN c i + 7) / 8 = lvN c (i + 1) := rfl
   have b3 := lvN_pos hn1 (i + 1)
   have b4 := lvN_le hn2 (i + 1)
   rw [hup] at hu8 hum
   obtain ⟨u, hu⟩ : ∃ u, u = lvN c (i + 1) := ⟨_, rfl⟩
   rw [← hu] at hu8 hum b3 b4
   repeat' (first | (show Ev _ _ _ _; first | refine Ev_seq ?_ | refine W_reg ?_ | refine Ev_block ?_ | refine W_ifY ?_ | refine Ev_skip ?_) | (show EvD _ _ [] _ _ _; refine W_nil ?_) | (show EvD _ _ (_ :: _) _ _ _; first | refine W_run tok ?_ ?_ (by simp (maxSteps := 1000000) (disch := omega) only [go_sem, wrap_i64_id]; with_reducible exact rfl)) | refine Q_thenN ?_ | fail)
   all_goals (try exact sd)
   all_goals (try refine F_done ?_)
   refine Ev_lp (u - 1) (fun j => [(5, i64 (1 + j : Nat))]) (fun j => ⟨σ.rows ++ r9 c i, σ.boxes, σ.maps⟩) [16, 17, 18, 19, 20, 21] ?_ (by first | rfl | (simp only [List.take_zero, List.append_nil]; done)) (fun j hi => ?_)
   ·exact le1
   by_cases hj' : j < u - 1
   ·have := hum j (by omega)
    repeat' (first | (show Ev _ _ _ _; first | refine Ev_seq ?_ | refine W_reg ?_ | refine Ev_block ?_ | refine W_ifY ?_ | refine Ev_skip ?_) | (show EvD _ _ [] _ _ _; refine W_nil ?_) | (show EvD _ _ (_ :: _) _ _ _; first | refine W_run tok ?_ ?_ (by simp (maxSteps := 1000000) (disch := omega) only [go_sem, wrap_i64_id]; with_reducible exact rfl)) | refine Q_thenN ?_ | refine Q_blkN ?_ | fail)
    all_goals (try exact sd)
    all_goals (try refine F_done ?_)
    refine Q_rndN ?_ (by omega) ?_
    rotate_left
    ·rfl
    repeat (first | exact LeL.nil | refine LeL.cons2 ?_ (Le.undef _) | refine LeL.cons2 ?_ (Le.refl _) | refine LeL.cons2 ?_ (Le.sl _) | refine LeL.cons2 ?_ (Le.eq (by first | rfl | exact congrArg _ (by omega))) | refine LeL.cons2 ?_ (Le.eq ?_))
   ·obtain rfl : j = u - 1 := by omega
    have e1 : 1 + (u - 1) = u := by omega
    rw [e1]
    rcases i with _ | i
    ·simp only [b9, r9, List.append_nil]
     repeat' (first | (show Ev _ _ _ _; first | refine Ev_seq ?_ | refine W_reg ?_ | refine W_ifN ?_ | refine Ev_exit ?_) | (show EvD _ _ [] _ _ _; refine W_nil ?_) | (show EvD _ _ (_ :: _) _ _ _; first | refine W_run tok ?_ ?_ (by simp (maxSteps := 1000000) (disch := omega) only [go_sem, wrap_i64_id]; with_reducible exact rfl)) | refine Q_thenN ?_ | refine Q_thenE ?_ | refine Q_blkN ?_ | refine Q_blkE ?_ | refine Q_rndE ?_ | fail)
     all_goals (try exact sd)
     all_goals (try refine F_done ?_)
     refine Q_rndN ?_ (by omega) ?_
     rotate_left
     ·rw [hu]; rfl
     repeat (first | exact LeL.nil | refine LeL.cons2 ?_ (Le.undef _) | refine LeL.cons2 ?_ (Le.refl _) | refine LeL.cons2 ?_ (Le.sl _) | refine LeL.cons2 ?_ (Le.eq (by first | rfl | exact congrArg _ (by omega))) | refine LeL.cons2 ?_ (Le.eq ?_))
     all_goals rw [← hu]
    ·simp only [b9, r9]
     have hl := lvsN_len c (i + 1)
     have hk := kidsD_len (lvsN c (i + 1))
     rw [hl] at hk
     repeat' (first | (show Ev _ _ _ _; first | refine Ev_seq ?_ | refine W_reg ?_ | refine W_ifN ?_ | refine Ev_exit ?_) | (show EvD _ _ [] _ _ _; refine W_nil ?_) | (show EvD _ _ (_ :: _) _ _ _; first | refine W_run tok ?_ ?_ (by simp (maxSteps := 1000000) (disch := omega) only [go_sem, wrap_i64_id, hk]; with_reducible exact rfl)) | refine Q_thenN ?_ | refine Q_thenE ?_ | refine Q_blkN ?_ | refine Q_blkE ?_ | refine Q_rndE ?_ | fail)
     all_goals (try exact sd)
     all_goals (try refine F_done ?_)
     refine Q_rndN ?_ (by omega) ?_
     rotate_left
     ·(rw [hu, lvsN_succ]) <;> rfl
     repeat (first | exact LeL.nil | refine LeL.cons2 ?_ (Le.undef _) | refine LeL.cons2 ?_ (Le.refl _) | refine LeL.cons2 ?_ (Le.sl _) | refine LeL.cons2 ?_ (Le.eq (by first | rfl | exact congrArg _ (by omega))) | refine LeL.cons2 ?_ (Le.eq ?_))
     all_goals rw [← hu]
  ·obtain rfl : i = m := by omega
   rcases i with _ | i
   ·simp only [b9, r9, List.append_nil]
    repeat' (first | (show Ev _ _ _ _; first | refine Ev_seq ?_ | refine W_reg ?_ | refine W_ifN ?_ | refine Ev_exit ?_ | refine Ev_ret ?_) | (show EvD _ _ [] _ _ _; refine W_nil ?_) | (show EvD _ _ (_ :: _) _ _ _; first | refine W_run tok ?_ ?_ (by simp (maxSteps := 1000000) (disch := omega) only [go_sem, wrap_i64_id]; with_reducible exact rfl)) | (show RetQ _ _ (RP _ _) _ _; refine R_ret ?_ ?_) | (show FrzTo _ _ _ _; refine F_weak ?_) | refine Q_thenN ?_ | refine Q_thenE ?_ | refine Q_blkE ?_ | refine Q_rndE ?_ | fail)
    all_goals (try exact sd)
    all_goals (try refine F_done ?_)
    all_goals rfl
   ·simp only [b9, r9]
    have hl := lvsN_len c (i + 1)
    have hk := kidsD_len (lvsN c (i + 1))
    rw [hl] at hk
    repeat' (first | (show Ev _ _ _ _; first | refine Ev_seq ?_ | refine W_reg ?_ | refine W_ifN ?_ | refine Ev_exit ?_ | refine Ev_ret ?_) | (show EvD _ _ [] _ _ _; refine W_nil ?_) | (show EvD _ _ (_ :: _) _ _ _; first | refine W_run tok ?_ ?_ (by simp (maxSteps := 1000000) (disch := omega) only [go_sem, wrap_i64_id, hk]; with_reducible exact rfl)) | (show RetQ _ _ (RP _ _) _ _; refine R_ret ?_ ?_) | (show FrzTo _ _ _ _; refine F_row ?_) | refine Q_thenN ?_ | refine Q_thenE ?_ | refine Q_blkE ?_ | refine Q_rndE ?_ | fail)
    all_goals (try exact sd)
    all_goals (try refine F_done ?_)
    all_goals rfl
instance i_bursarref09_Levels (n : Int) : Con Try.prog 19 [.int .i64 n] (n ≤ 3000 ∧ -9223372036854775808 ≤ n) (.sl (kidsD (lvsN (nL n.toNat) (rdC (nL n.toNat))))) := ⟨c_bursarref09_Levels n ⟩
theorem c_bursarref09_Pages (n : Int) (hC : n ≤ 3000 ∧ -9223372036854775808 ≤ n) : Pure Try.prog n_bursarref09_Pages [.int .i64 n] (.int .i64 (pagesT n.toNat : Nat)) := by
 refine Pure.go tok (rs := [.tmp 2]) [.int .i64 n, .undef, .undef, .undef, .undef, .undef, .undef, .undef, .undef, .undef, .undef, .undef, .undef, .undef, .undef, .undef, .undef, .undef, .undef, .undef, .undef] Try.func17 (fun σ => ?_)
 obtain ⟨k, hk⟩ : ∃ k, k = n.toNat := ⟨_, rfl⟩
 have hk3 : k ≤ 3000 := by omega
 have iL := i_bursarref09_Levels n
 rw [← hk] at iL ⊢
 have hn1 := nL_pos k
 have hn2 := nL_le hk3
 unfold pagesT
 obtain ⟨c, hc⟩ : ∃ c, c = nL k := ⟨_, rfl⟩
 rw [← hc] at hn1 hn2 iL ⊢
 obtain ⟨m, hm⟩ : ∃ m, m = rdC c := ⟨_, rfl⟩
 have hm4 : m ≤ 4 := hm ▸ rdC_le c
 rw [← hm] at iL ⊢
 have hl := lvsN_len c m
 have hkl := kidsD_len (lvsN c m)
 rw [hl] at hkl
 repeat' (first | (show Ev _ _ _ _; first | refine Ev_seq ?_ | refine W_reg ?_ | refine Ev_block ?_) | (show EvD _ _ [] _ _ _; refine W_nil ?_) | (show EvD _ _ (_ :: _) _ _ _; first | refine W_run tok ?_ ?_ (by simp (maxSteps := 1000000) (disch := omega) only [go_sem, wrap_i64_id, hkl]; with_reducible exact rfl) | refine W_callee ?_) | (show EvC _ _ _ _ _ _ _ _ _; refine W_con ?_ ?_) | refine Q_thenN ?_ | fail)
 all_goals (try exact sd)
 all_goals (try refine F_done ?_)
 refine Ev_lp (m + 1) (fun i => [(4, i64 (sumP c i)), (5, i64 i)]) (fun i => σ) [8, 9, 10, 11, 12, 13, 14, 15, 16, 17, 18, 19] ?_ (by first | rfl | (simp only [List.take_zero, List.append_nil]; done)) (fun i hi => ?_)
 ·exact le1
 have b1 := lvN_le hn2 i
 have b3 := sumP_le hn2 i
 by_cases hi' : i < m + 1
 ·have hg : (kidsD (lvsN c m)).getD i .undef = .int .i64 (lvN c i : Int) := lvsN_get hi'
  repeat' (first | (show Ev _ _ _ _; first | refine Ev_seq ?_ | refine W_reg ?_ | refine Ev_block ?_ | refine W_ifY ?_ | refine Ev_skip ?_) | (show EvD _ _ [] _ _ _; refine W_nil ?_) | (show EvD _ _ (_ :: _) _ _ _; first | refine W_run tok ?_ ?_ (by simp (maxSteps := 1000000) (disch := omega) only [go_sem, wrap_i64_id, hkl, hg]; with_reducible exact rfl)) | refine Q_thenN ?_ | refine Q_blkN ?_ | fail)
  all_goals (try exact sd)
  all_goals (try refine F_done ?_)
  refine Q_rndN ?_ (by omega) ?_
  rotate_left
  ·rfl
  repeat (first | exact LeL.nil | refine LeL.cons2 ?_ (Le.undef _) | refine LeL.cons2 ?_ (Le.refl _) | refine LeL.cons2 ?_ (Le.sl _) | refine LeL.cons2 ?_ (Le.eq (by first | rfl | exact congrArg _ (by omega))) | refine LeL.cons2 ?_ (Le.eq ?_))
 ·obtain rfl : i = m + 1 := by omega
  rw [sumP_sumL]
  repeat' (first | (show Ev _ _ _ _; first | refine Ev_seq ?_ | refine W_reg ?_ | refine W_ifN ?_ | refine Ev_exit ?_ | refine Ev_ret ?_) | (show EvD _ _ [] _ _ _; refine W_nil ?_) | (show EvD _ _ (_ :: _) _ _ _; first | refine W_run tok ?_ ?_ (by simp (maxSteps := 1000000) (disch := omega) only [go_sem, wrap_i64_id, hkl]; with_reducible exact rfl)) | (show RetQ _ _ (RP _ _) _ _; refine R_ret ?_ ?_) | refine Q_thenN ?_ | refine Q_thenE ?_ | refine Q_blkE ?_ | refine Q_rndE ?_ | fail)
  all_goals (try exact sd)
  all_goals (try refine F_done ?_)
  all_goals rfl
instance i_bursarref09_Pages (n : Int) : Con Try.prog 17 [.int .i64 n] (n ≤ 3000 ∧ -9223372036854775808 ≤ n) (.int .i64 (pagesT n.toNat : Nat)) := ⟨c_bursarref09_Pages n ⟩
end Go.Val.Ytgjmpefhjdgkoaa
