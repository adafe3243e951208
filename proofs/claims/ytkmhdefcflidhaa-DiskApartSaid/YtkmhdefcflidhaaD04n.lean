/- Chapter 04: the law of writes apart, walked. -/
import Derived.Test.YtkmhdefcflidhaaD04l
namespace Go.Val.Ytkmhdefcflidhaa
open Go Go.Val Go.Proofs Go.Proofs.Ytkmhdefcflidhaa
attribute [local irreducible] Ev EvD EvC thenQ blockQ RoundG RetQ
set_option maxRecDepth 100000
set_option maxHeartbeats 4000000
set_option linter.unusedSimpArgs false
set_option linter.unusedVariables false

def putQ (S : List (List UInt8)) (q : Int × List UInt8) : List (List UInt8) := S.set q.1.toNat q.2
theorem done_fold (S : List (List UInt8)) (W : List (Int × List UInt8)) : ∀ k, k ≤ W.length → doneN S W (fun _ => true) k = (W.take k).foldl putQ S
  | 0, _ => rfl
  | k + 1, h => by
    have hk : k < W.length := by omega
    rw [doneN, if_pos rfl, done_fold S W k (by omega), List.take_add_one, List.getElem?_eq_getElem hk, List.foldl_append]
    simp [putQ, List.getD_eq_getElem?_getD, List.getElem?_eq_getElem hk]
theorem flush_fold (S : List (List UInt8)) (W : List (Int × List UInt8)) : flushS S W = W.foldl putQ S := by
  unfold flushS doneS; rw [done_fold S W _ (Nat.le_refl _), List.take_length]
def secA (c : Int) : List UInt8 := List.replicate 64 (oct c)
def runW (i : Int) (s : List UInt8) (n : Nat) : List (Int × List UInt8) := (List.range n).map fun (t : Nat) => (i + (t : Int), s)
theorem chunk_all (c : Int) {n t : Nat} (h : t < n) : chunk (allS c (n : Int)) t = secA c := by
  unfold chunk allS secA
  rw [List.drop_replicate, List.take_replicate]
  congr 1
  omega
theorem addW_all (W : List (Int × List UInt8)) (i c : Int) (n : Nat) : addW W i (allS c (n : Int)) n = W ++ runW i (secA c) n := by
  unfold addW runW
  congr 1
  apply List.map_congr_left
  intro t ht
  rw [chunk_all c (List.mem_range.1 ht)]
theorem fold_len (W : List (Int × List UInt8)) : ∀ S : List (List UInt8), (W.foldl putQ S).length = S.length := by
  induction W with
  | nil => intro S; rfl
  | cons q W ih => intro S; rw [List.foldl_cons, ih]; simp [putQ]
theorem fold_run (S : List (List UInt8)) (i : Nat) (s : List UInt8) (t : Nat) : ∀ n, ((runW (i : Int) s n).foldl putQ S)[t]? = if i ≤ t ∧ t < i + n ∧ t < S.length then some s else S[t]?
  | 0 => by rw [if_neg (by omega)]; rfl
  | n + 1 => by
    have ih := fold_run S i s t n
    have hl := fold_len (runW (i : Int) s n) S
    unfold runW at *
    rw [List.range_succ, List.map_append, List.foldl_append]
    simp only [List.map_cons, List.map_nil, List.foldl_cons, List.foldl_nil, putQ]
    rw [List.getElem?_set, ih, hl, show ((i : Int) + (n : Int)).toNat = i + n by omega]
    by_cases h1 : i + n = t
    · rw [if_pos h1]
      by_cases h2 : i + n < S.length
      · rw [if_pos h2, if_pos (by omega)]
      · rw [if_neg h2, if_neg (by omega), List.getElem?_eq_none (by omega)]
    · rw [if_neg h1]
      by_cases h2 : i ≤ t ∧ t < i + n ∧ t < S.length
      · rw [if_pos h2, if_pos (by omega)]
      · rw [if_neg h2, if_neg (by omega)]
theorem flush_apart (S : List (List UInt8)) (i j : Nat) (a b : List UInt8) (k w : Nat) (h : i + k ≤ j) :
    flushS S (runW i a k ++ runW j b w) = flushS S (runW j b w ++ runW i a k) := by
  rw [flush_fold, flush_fold, List.foldl_append, List.foldl_append]
  apply List.ext_getElem?
  intro t
  rw [fold_run, fold_run, fold_run, fold_run, fold_len, fold_len]
  by_cases h1 : i ≤ t ∧ t < i + k ∧ t < S.length
  · rw [if_pos h1, if_neg (by omega), if_pos h1]
  · rw [if_neg h1]
    by_cases h2 : j ≤ t ∧ t < j + w ∧ t < S.length
    · rw [if_pos h2, if_neg h1]
    · rw [if_neg h2, if_neg h1]


def readB (S : List (List UInt8)) (i n : Nat) : List UInt8 := ((S.drop i).take n).flatten
theorem readB_len {S : List (List UInt8)} (h : ∀ b ∈ S, b.length = 64) (i : Nat) : ∀ n, i + n ≤ S.length → (readB S i n).length = 64 * n
  | 0, _ => by simp [readB]
  | n + 1, hn => by
    have ih := readB_len h i n (by omega)
    unfold readB at *
    rw [List.take_add_one, List.getElem?_drop, List.getElem?_eq_getElem (by omega)]
    simp only [Option.toList_some, List.flatten_append, List.length_append, ih, List.flatten_cons, List.flatten_nil, List.append_nil]
    rw [h _ (List.getElem_mem _)]; omega
theorem readB_succ {S : List (List UInt8)} {i n : Nat} (hn : i + n < S.length) : bytes (readB S i n) ++ bytes (S.getD (i + n) []) = bytes (readB S i (n + 1)) := by
  unfold readB
  rw [List.take_add_one, List.getElem?_drop, List.getElem?_eq_getElem hn, List.getD_eq_getElem?_getD, List.getElem?_eq_getElem hn]
  simp [bytes]
theorem c_disk_Read (S : List (List UInt8)) (L : Int) (i n : Nat) (hC : (goodS S [] S.length ∧ 1 ≤ S.length ∧ S.length ≤ 4096 ∧ -1 ≤ L) ∧ i + n ≤ S.length) : Pure Try.prog n_disk_Read [diskD S [] L false, .int .i64 i, .int .i64 n] (.tup [.sl (bytes (readB S i n)), .int .i64 0]) := by
  refine Pure.go tok (rs := [.tmp 6, .tmp 7]) [diskD S [] L false, .int .i64 i, .int .i64 n, .undef, .undef, .undef, .undef, .undef, .undef, .undef, .undef, .undef, .undef, .undef, .undef, .undef, .undef, .undef, .undef, .undef, .undef, .undef, .undef, .undef, .undef, .undef, .undef, .undef, .undef, .undef, .undef, .undef, .undef, .undef, .undef, .undef, .undef, .undef, .undef, .undef, .undef, .undef, .undef, .undef, .undef, .undef, .undef, .undef, .undef, .undef, .undef, .undef, .undef, .undef, .undef, .undef, .undef] Try.func36 (fun σ => ?_)
  have hm : mayP S [] L := good_may hC.1.1 hC.1.2.1 hC.1.2.2.1 hC.1.2.2.2
  have hz : szP S [] := ⟨by omega, by simp⟩
  repeat' (first | (show Ev _ (.region _ _ true) _ _; first | refine D_start [13, 41, 42, 46, 60] mix ?_ | refine D_startA [13, 41, 42, 46, 60, 99998] mix ?_ | refine D_startA [13, 41, 42, 46, 60] mix ?_) | (show DrD _ _ _ [] _ _ _ _; refine D_nil ?_; try dsimp only) | (show DrD _ _ _ (⟨_, _, _, _, _, some _⟩ :: _) _ _ _ _; first | refine D_grdY ?_ | refine D_grdN ?_ | refine D_grdP (fun h => ?_) (fun h => ?_) | refine D_grdB (fun h => ?_) (fun h => ?_)) | (show DrD _ (EB _ _) _ (_ :: _) _ _ _ _; first | refine D_runL tok ?_ ?_) | (show DrD _ EA _ (_ :: _) _ _ _ _; first | refine D_runLA tok ?_ ?_) | (show DrD _ (ES _) _ (_ :: _) _ _ _ _; first | refine D_runLE tok ?_ ?_) | (show DrD _ _ _ (_ :: _) _ _ _ _; first | refine D_con ?_ ?_ | refine D_own ?_ ?_ | refine D_app ?_ ?_ ?_ | refine D_store tok ?_ ?_ | refine D_eff tok ?_ ?_ | refine D_hold tok ?_ ?_) | (show Ev _ _ _ _; first | refine Ev_seq ?_ | refine W_reg ?_ | refine Ev_block ?_ | refine W_ifT ?_ | refine W_ifF ?_ | refine W_ifY ?_ | refine W_ifN ?_ | refine W_ifP (fun h => ?_) (fun h => ?_) | refine W_ifB (fun h => ?_) (fun h => ?_) | refine Ev_skip ?_ | refine Ev_exit ?_ | refine Ev_ret ?_) | (show EvD _ _ [] _ _ _; refine W_nil ?_) | (show EvD _ _ (⟨_, _, _, _, _, some _⟩ :: _) _ _ _; first | refine W_grdY ?_ | refine W_grdN ?_ | refine W_grdP (fun h => ?_) (fun h => ?_) | refine W_grdB (fun h => ?_) (fun h => ?_)) | (show EvD _ _ (⟨some _, .buildSlice _ _ _, _, _, _, none⟩ :: ⟨some _, .convert _ _ (.tmp _), _, _, _, none⟩ :: _) _ _ _; refine W_lit tok ?_ ?_) | (show EvD _ _ (_ :: _) _ _ _; first | refine W_run tok ?_ ?_ | refine W_callee ?_ | refine W_frz ?_ | refine W_isnil tok (fun qn hqn => ?_)) | (show EvC _ _ _ _ _ _ _ _ _; first | refine W_con ?_ ?_ | refine W_conOwn ?_ ?_ | refine W_conT ?_ ?_ | refine W_conApp ?_ ?_ ?_ | refine W_weak ?_ | refine W_frzArg ?_ | refine W_box ?_) | (show EvB _ _ _ _ _ _ _ _ _ _ _ _; refine W_conP ?_ ?_) | (show RetQ _ _ (RP _ _) _ _; refine R_ret ?_ ?_) | (show RetQ _ _ (RO _ _ _ _) _ _; refine R_own ?_ ?_) | (show RetQ _ _ (RX _ ⟨_, List.set _ _ _, _⟩ _ [] [] []) _ _; first | refine R_p0 ?_ ?_ ?_ | refine R_p0s hB ?_ ?_ ?_) | (show RetQ _ _ (RX _ _ _ [] [] []) _ _; refine R_x0 ?_ ?_) | (show RetQ _ _ (RX _ _ _ [_] [] []) _ _; refine R_xr ?_ (by intro p q s hp; simp only [DV.ren, rens, hp]; exact rfl) ?_) | (show RetQ _ _ (RX _ _ _ [] [_] []) _ _; refine R_xb ?_ (by intro p q s hp; simp only [DV.ren, rens, hp]; exact rfl) ?_) | (show FrzTo _ _ _ _; first | refine F_row ?_ | refine F_weak ?_) | refine Q_thenN ?_ | refine Q_thenE ?_ | refine Q_thenR ?_ | refine Q_blkN ?_ | refine Q_blkE ?_ | (show blockQ _ _ _ _; refine Q_blkX ?_) | refine Q_blkR ?_ | refine Q_rndE ?_ | refine Q_rndR ?_)
  all_goals (try first | exact trivial | omega | (simp only [List.length_take, List.length_drop, List.length_append, List.length_replicate, List.length_cons, List.length_nil, bytes_len, beN_len, Int.reduceToNat, true_and, and_true]; omega))
  all_goals (try refine F_done ?_)
  refine Ev_seed 8 5 1 rfl (by decide) (by simp only [List.set_cons_succ, List.set_cons_zero]; exact rfl) ?_
  refine Ev_lp (n) (fun t => [(8, .row σ.rows.length (readB S i t).length), (9, .int .i64 ((i : Int) + t))]) (fun t => ⟨σ.rows ++ [some ⟨bytes (readB S i t), 5, 1⟩], σ.boxes ++ [some ⟨25, [.sl (secs S), .sl (pends []), .int .i64 L, .bool false]⟩], σ.maps⟩) [10, 12, 27, 28, 29, 30, 31, 32, 33, 34, 35, 36, 37, 38, 39, 40, 41, 42, 43, 44, 45, 46, 47, 48, 49, 50, 51, 52, 53, 54, 55] ?_ (by simp [readB, bytes]) (fun t hi => ?_)
  · repeat (first | exact LeL.nil | refine LeL.cons2 ?_ (Le.undef _) | refine LeL.cons2 ?_ (Le.refl _) | refine LeL.cons2 ?_ (Le.sl _) | refine LeL.cons2 ?_ (Le.eq ?_))
    all_goals (first | (simp; done) | (simp; omega) | skip)
  by_cases ht' : t < n
  · have hl := readB_len hC.1.1.1.2 i t (by omega)
    have hg := secs_get (S := S) (i := i + t) (by omega)
    have hs := readB_succ (S := S) (i := i) (n := t) (by omega)
    have hb : (S.getD (i + t) []).length = 64 := hC.1.1.1.2 _ (getD_memS (by omega))
    have hN : ((i : Int) + (t : Int)).toNat = i + t := by omega
    repeat' (first | (show Ev _ (.region _ _ true) _ _; first | refine D_start [13, 41, 42, 46, 60] mix ?_ | refine D_startA [13, 41, 42, 46, 60, 99998] mix ?_ | refine D_startA [13, 41, 42, 46, 60] mix ?_) | (show DrD _ _ _ [] _ _ _ _; refine D_nil ?_; try dsimp only) | (show DrD _ _ _ (⟨_, _, _, _, _, some _⟩ :: _) _ _ _ _; first | refine D_grdY ?_ | refine D_grdN ?_ | refine D_grdP (fun h => ?_) (fun h => ?_) | refine D_grdB (fun h => ?_) (fun h => ?_)) | (show DrD _ (EB _ _) _ (_ :: _) _ _ _ _; first | refine D_runL tok ?_ ?_ (h := by intro R; simp (maxSteps := 1000000) (disch := omega) only [go_sem, wrap_i64_id, hN, hg]; with_reducible exact rfl)) | (show DrD _ EA _ (_ :: _) _ _ _ _; first | refine D_runLA tok ?_ ?_ (h := by intro R; simp (maxSteps := 1000000) (disch := omega) only [go_sem, wrap_i64_id, hN, hg]; with_reducible exact rfl)) | (show DrD _ (ES _) _ (_ :: _) _ _ _ _; first | refine D_runLE tok ?_ ?_ (h := by simp (maxSteps := 1000000) (disch := omega) only [go_sem, wrap_i64_id, hN, hg]; with_reducible exact rfl)) | (show DrD _ _ _ (_ :: _) _ _ _ _; first | refine D_con ?_ ?_ | refine D_own ?_ ?_ | refine D_app ?_ ?_ ?_ | refine D_store tok ?_ ?_ | refine D_eff tok ?_ ?_ | refine D_hold tok ?_ ?_) | (show Ev _ _ _ _; first | refine Ev_seq ?_ | refine W_reg ?_ | refine Ev_block ?_ | refine W_ifT ?_ | refine W_ifF ?_ | refine W_ifY ?_ | refine W_ifN ?_ | refine W_ifP (fun h => ?_) (fun h => ?_) | refine W_ifB (fun h => ?_) (fun h => ?_) | refine Ev_skip ?_ | refine Ev_exit ?_ | refine Ev_ret ?_) | (show EvD _ _ [] _ _ _; refine W_nil ?_) | (show EvD _ _ (⟨_, _, _, _, _, some _⟩ :: _) _ _ _; first | refine W_grdY ?_ | refine W_grdN ?_ | refine W_grdP (fun h => ?_) (fun h => ?_) | refine W_grdB (fun h => ?_) (fun h => ?_)) | (show EvD _ _ (⟨some _, .buildSlice _ _ _, _, _, _, none⟩ :: ⟨some _, .convert _ _ (.tmp _), _, _, _, none⟩ :: _) _ _ _; refine W_lit tok ?_ ?_) | (show EvD _ _ (_ :: _) _ _ _; first | refine W_run tok ?_ ?_ (by simp (maxSteps := 1000000) (disch := omega) only [go_sem, wrap_i64_id, hN, hg]; with_reducible exact rfl) | refine W_callee ?_ | refine W_frz ?_ | refine W_isnil tok (fun qn hqn => ?_)) | (show EvC _ _ _ _ _ _ _ _ _; first | refine W_con ?_ ?_ | refine W_conOwn ?_ ?_ | refine W_conT ?_ ?_ | refine W_conApp ?_ ?_ ?_ | refine W_weak ?_ | refine W_frzArg ?_ | refine W_box ?_) | (show EvB _ _ _ _ _ _ _ _ _ _ _ _; refine W_conP ?_ ?_) | (show RetQ _ _ (RP _ _) _ _; refine R_ret ?_ ?_) | (show RetQ _ _ (RO _ _ _ _) _ _; refine R_own ?_ ?_) | (show RetQ _ _ (RX _ ⟨_, List.set _ _ _, _⟩ _ [] [] []) _ _; first | refine R_p0 ?_ ?_ ?_ | refine R_p0s hB ?_ ?_ ?_) | (show RetQ _ _ (RX _ _ _ [] [] []) _ _; refine R_x0 ?_ ?_) | (show RetQ _ _ (RX _ _ _ [_] [] []) _ _; refine R_xr ?_ (by intro p q s hp; simp only [DV.ren, rens, hp]; exact rfl) ?_) | (show RetQ _ _ (RX _ _ _ [] [_] []) _ _; refine R_xb ?_ (by intro p q s hp; simp only [DV.ren, rens, hp]; exact rfl) ?_) | (show FrzTo _ _ _ _; first | refine F_row ?_ | refine F_weak ?_) | refine Q_thenN ?_ | refine Q_thenE ?_ | refine Q_thenR ?_ | refine Q_blkN ?_ | refine Q_blkE ?_ | (show blockQ _ _ _ _; refine Q_blkX ?_) | refine Q_blkR ?_ | refine Q_rndE ?_ | refine Q_rndR ?_)
    all_goals (try first | exact trivial | omega | (simp only [List.length_take, List.length_drop, List.length_append, List.length_replicate, List.length_cons, List.length_nil, bytes_len, beN_len, Int.reduceToNat, true_and, and_true]; omega))
    all_goals (try refine F_done ?_)
    refine Ev_lp (0) (fun q => [(10, .sl (bytes (S.getD (i + t) []))), (42, i64 q)]) (fun q => _) [12, 43, 44, 45, 46, 47, 48, 49, 50, 51, 52] ?_ (by first | rfl | (simp only [List.take_zero, List.append_nil]; done)) (fun q hi => ?_)
    · repeat (first | exact LeL.nil | refine LeL.cons2 ?_ (Le.undef _) | refine LeL.cons2 ?_ (Le.refl _) | refine LeL.cons2 ?_ (Le.sl _) | refine LeL.cons2 ?_ (Le.eq ?_))
      all_goals (first | (simp; done) | (simp; omega) | skip)
    obtain rfl : q = 0 := by omega
    have hl1 := readB_len hC.1.1.1.2 i (t + 1) (by omega)
    have hbb : (bytes (S.getD (i + t) [])).length = 64 := by rw [bytes_len, hb]
    repeat' (first | (show Ev _ (.region _ _ true) _ _; first | refine D_start [13, 41, 42, 46, 60] mix ?_ | refine D_startA [13, 41, 42, 46, 60, 99998] mix ?_ | refine D_startA [13, 41, 42, 46, 60] mix ?_) | (show DrD _ _ _ [] _ _ _ _; refine D_nil ?_; try dsimp only) | (show DrD _ _ _ (⟨_, _, _, _, _, some _⟩ :: _) _ _ _ _; first | refine D_grdY ?_ | refine D_grdN ?_ | refine D_grdP (fun h => ?_) (fun h => ?_) | refine D_grdB (fun h => ?_) (fun h => ?_)) | (show DrD _ (EB _ _) _ (_ :: _) _ _ _ _; first | refine D_runL tok ?_ ?_ (h := by intro R; simp (maxSteps := 1000000) (disch := omega) only [go_sem, wrap_i64_id, hbb, hs]; with_reducible exact rfl)) | (show DrD _ EA _ (_ :: _) _ _ _ _; first | refine D_runLA tok ?_ ?_ (h := by intro R; simp (maxSteps := 1000000) (disch := omega) only [go_sem, wrap_i64_id, hbb, hs]; with_reducible exact rfl)) | (show DrD _ (ES _) _ (_ :: _) _ _ _ _; first | refine D_runLE tok ?_ ?_ (h := by simp (maxSteps := 1000000) (disch := omega) only [go_sem, wrap_i64_id, hbb, hs]; with_reducible exact rfl)) | (show DrD _ _ _ (_ :: _) _ _ _ _; first | refine D_con ?_ ?_ | refine D_own ?_ ?_ | refine D_app ?_ ?_ ?_ | refine D_store tok ?_ ?_ | refine D_eff tok ?_ ?_ | refine D_hold tok ?_ ?_) | (show Ev _ _ _ _; first | refine Ev_seq ?_ | refine W_reg ?_ | refine Ev_block ?_ | refine W_ifT ?_ | refine W_ifF ?_ | refine W_ifY ?_ | refine W_ifN ?_ | refine W_ifP (fun h => ?_) (fun h => ?_) | refine W_ifB (fun h => ?_) (fun h => ?_) | refine Ev_skip ?_ | refine Ev_exit ?_ | refine Ev_ret ?_) | (show EvD _ _ [] _ _ _; refine W_nil ?_) | (show EvD _ _ (⟨_, _, _, _, _, some _⟩ :: _) _ _ _; first | refine W_grdY ?_ | refine W_grdN ?_ | refine W_grdP (fun h => ?_) (fun h => ?_) | refine W_grdB (fun h => ?_) (fun h => ?_)) | (show EvD _ _ (⟨some _, .buildSlice _ _ _, _, _, _, none⟩ :: ⟨some _, .convert _ _ (.tmp _), _, _, _, none⟩ :: _) _ _ _; refine W_lit tok ?_ ?_) | (show EvD _ _ (_ :: _) _ _ _; first | refine W_run tok ?_ ?_ (by simp (maxSteps := 1000000) (disch := omega) only [go_sem, wrap_i64_id, hbb, hs]; with_reducible exact rfl) | refine W_callee ?_ | refine W_frz ?_ | refine W_isnil tok (fun qn hqn => ?_)) | (show EvC _ _ _ _ _ _ _ _ _; first | refine W_con ?_ ?_ | refine W_conOwn ?_ ?_ | refine W_conT ?_ ?_ | refine W_conApp ?_ ?_ ?_ | refine W_weak ?_ | refine W_frzArg ?_ | refine W_box ?_) | (show EvB _ _ _ _ _ _ _ _ _ _ _ _; refine W_conP ?_ ?_) | (show RetQ _ _ (RP _ _) _ _; refine R_ret ?_ ?_) | (show RetQ _ _ (RO _ _ _ _) _ _; refine R_own ?_ ?_) | (show RetQ _ _ (RX _ ⟨_, List.set _ _ _, _⟩ _ [] [] []) _ _; first | refine R_p0 ?_ ?_ ?_ | refine R_p0s hB ?_ ?_ ?_) | (show RetQ _ _ (RX _ _ _ [] [] []) _ _; refine R_x0 ?_ ?_) | (show RetQ _ _ (RX _ _ _ [_] [] []) _ _; refine R_xr ?_ (by intro p q s hp; simp only [DV.ren, rens, hp]; exact rfl) ?_) | (show RetQ _ _ (RX _ _ _ [] [_] []) _ _; refine R_xb ?_ (by intro p q s hp; simp only [DV.ren, rens, hp]; exact rfl) ?_) | (show FrzTo _ _ _ _; first | refine F_row ?_ | refine F_weak ?_) | refine Q_thenN ?_ | refine Q_thenE ?_ | refine Q_thenR ?_ | refine Q_blkN ?_ | refine Q_blkE ?_ | (show blockQ _ _ _ _; refine Q_blkX ?_) | refine Q_blkR ?_ | refine Q_rndE ?_ | refine Q_rndR ?_)
    all_goals (try first | exact trivial | omega | (simp only [List.length_take, List.length_drop, List.length_append, List.length_replicate, List.length_cons, List.length_nil, bytes_len, beN_len, Int.reduceToNat, true_and, and_true]; omega))
    all_goals (try refine F_done ?_)
    refine Q_rndN ?_ (by omega) ?_
    rotate_left
    · rfl
    repeat (first | exact LeL.nil | refine LeL.cons2 ?_ (Le.undef _) | refine LeL.cons2 ?_ (Le.refl _) | refine LeL.cons2 ?_ (Le.sl _) | refine LeL.cons2 ?_ (Le.eq (by first | rfl | exact congrArg _ (by omega))) | refine LeL.cons2 ?_ (Le.eq ?_))
  · obtain rfl : t = n := by omega
    have hl := readB_len hC.1.1.1.2 i t (by omega)
    repeat' (first | (show Ev _ (.region _ _ true) _ _; first | refine D_start [13, 41, 42, 46, 60] mix ?_ | refine D_startA [13, 41, 42, 46, 60, 99998] mix ?_ | refine D_startA [13, 41, 42, 46, 60] mix ?_) | (show DrD _ _ _ [] _ _ _ _; refine D_nil ?_; try dsimp only) | (show DrD _ _ _ (⟨_, _, _, _, _, some _⟩ :: _) _ _ _ _; first | refine D_grdY ?_ | refine D_grdN ?_ | refine D_grdP (fun h => ?_) (fun h => ?_) | refine D_grdB (fun h => ?_) (fun h => ?_)) | (show DrD _ (EB _ _) _ (_ :: _) _ _ _ _; first | refine D_runL tok ?_ ?_ (h := by intro R; simp (maxSteps := 1000000) (disch := omega) only [go_sem, wrap_i64_id, hl]; with_reducible exact rfl)) | (show DrD _ EA _ (_ :: _) _ _ _ _; first | refine D_runLA tok ?_ ?_ (h := by intro R; simp (maxSteps := 1000000) (disch := omega) only [go_sem, wrap_i64_id, hl]; with_reducible exact rfl)) | (show DrD _ (ES _) _ (_ :: _) _ _ _ _; first | refine D_runLE tok ?_ ?_ (h := by simp (maxSteps := 1000000) (disch := omega) only [go_sem, wrap_i64_id, hl]; with_reducible exact rfl)) | (show DrD _ _ _ (_ :: _) _ _ _ _; first | refine D_con ?_ ?_ | refine D_own ?_ ?_ | refine D_app ?_ ?_ ?_ | refine D_store tok ?_ ?_ | refine D_eff tok ?_ ?_ | refine D_hold tok ?_ ?_) | (show Ev _ _ _ _; first | refine Ev_seq ?_ | refine W_reg ?_ | refine Ev_block ?_ | refine W_ifT ?_ | refine W_ifF ?_ | refine W_ifY ?_ | refine W_ifN ?_ | refine W_ifP (fun h => ?_) (fun h => ?_) | refine W_ifB (fun h => ?_) (fun h => ?_) | refine Ev_skip ?_ | refine Ev_exit ?_ | refine Ev_ret ?_) | (show EvD _ _ [] _ _ _; refine W_nil ?_) | (show EvD _ _ (⟨_, _, _, _, _, some _⟩ :: _) _ _ _; first | refine W_grdY ?_ | refine W_grdN ?_ | refine W_grdP (fun h => ?_) (fun h => ?_) | refine W_grdB (fun h => ?_) (fun h => ?_)) | (show EvD _ _ (⟨some _, .buildSlice _ _ _, _, _, _, none⟩ :: ⟨some _, .convert _ _ (.tmp _), _, _, _, none⟩ :: _) _ _ _; refine W_lit tok ?_ ?_) | (show EvD _ _ (_ :: _) _ _ _; first | refine W_run tok ?_ ?_ (by simp (maxSteps := 1000000) (disch := omega) only [go_sem, wrap_i64_id, hl]; with_reducible exact rfl) | refine W_callee ?_ | refine W_frz ?_ | refine W_isnil tok (fun qn hqn => ?_)) | (show EvC _ _ _ _ _ _ _ _ _; first | refine W_con ?_ ?_ | refine W_conOwn ?_ ?_ | refine W_conT ?_ ?_ | refine W_conApp ?_ ?_ ?_ | refine W_weak ?_ | refine W_frzArg ?_ | refine W_box ?_) | (show EvB _ _ _ _ _ _ _ _ _ _ _ _; refine W_conP ?_ ?_) | (show RetQ _ _ (RP _ _) _ _; refine R_ret ?_ ?_) | (show RetQ _ _ (RO _ _ _ _) _ _; refine R_own ?_ ?_) | (show RetQ _ _ (RX _ ⟨_, List.set _ _ _, _⟩ _ [] [] []) _ _; first | refine R_p0 ?_ ?_ ?_ | refine R_p0s hB ?_ ?_ ?_) | (show RetQ _ _ (RX _ _ _ [] [] []) _ _; refine R_x0 ?_ ?_) | (show RetQ _ _ (RX _ _ _ [_] [] []) _ _; refine R_xr ?_ (by intro p q s hp; simp only [DV.ren, rens, hp]; exact rfl) ?_) | (show RetQ _ _ (RX _ _ _ [] [_] []) _ _; refine R_xb ?_ (by intro p q s hp; simp only [DV.ren, rens, hp]; exact rfl) ?_) | (show FrzTo _ _ _ _; first | refine F_row ?_ | refine F_weak ?_) | refine Q_thenN ?_ | refine Q_thenE ?_ | refine Q_thenR ?_ | refine Q_blkN ?_ | refine Q_blkE ?_ | (show blockQ _ _ _ _; refine Q_blkX ?_) | refine Q_blkR ?_ | refine Q_rndE ?_ | refine Q_rndR ?_)
    all_goals (try first | exact trivial | omega | (simp only [List.length_take, List.length_drop, List.length_append, List.length_replicate, List.length_cons, List.length_nil, bytes_len, beN_len, Int.reduceToNat, true_and, and_true]; omega))
    all_goals (try refine F_done ?_)
    all_goals rfl
instance i_disk_Read (S : List (List UInt8)) (L : Int) (i n : Nat) : Con Try.prog 36 [diskD S [] L false, .int .i64 i, .int .i64 n] ((goodS S [] S.length ∧ 1 ≤ S.length ∧ S.length ≤ 4096 ∧ -1 ≤ L) ∧ i + n ≤ S.length) (.tup [.sl (bytes (readB S i n)), .int .i64 0]) := ⟨c_disk_Read S  L  i n ⟩


theorem secA_flat (c : Int) (n : Nat) : (List.replicate n (secA c)).flatten = allS c (n : Int) := by
  unfold secA allS
  rw [List.flatten_replicate_replicate]
  congr 1
  rw [Int.toNat_natCast, Nat.mul_comm]
theorem read_apart (a b : Int) (i k w : Nat) (h : i + k + w ≤ 20) :
    readB (flushS (newS 20) (runW (i : Int) (secA a) k ++ runW ((i + k : Nat) : Int) (secA b) w)) i (k + w) = allS a (k : Int) ++ allS b (w : Int) := by
  unfold readB
  rw [flush_fold, List.foldl_append, ← secA_flat, ← secA_flat, ← List.flatten_append]
  congr 1
  apply List.ext_getElem?
  intro t
  rw [List.getElem?_take, List.getElem?_drop, fold_run, fold_run, fold_len, newS_len, List.getElem?_append, List.length_replicate, List.getElem?_replicate, List.getElem?_replicate]
  by_cases h1 : t < k + w
  · rw [if_pos h1]
    by_cases h2 : t < k
    · rw [if_neg (by omega), if_pos (by omega), if_pos h2, if_pos h2]
    · rw [if_pos (by omega), if_neg h2, if_pos (by omega)]
  · rw [if_neg h1, if_neg (by omega), if_neg (by omega)]
theorem run_good {S : List (List UInt8)} {W : List (Int × List UInt8)} {m : Nat} (h : goodS S W m) {i : Nat} (c : Int) {n : Nat} (h1 : i + n ≤ m) : goodS S (W ++ runW (i : Int) (secA c) n) m := by
  rw [← addW_all]
  exact add_good h (by omega) (by omega) (by rw [all_len]; omega)
theorem con_all {W : List (Int × List UInt8)} (h : goodS (newS 20) W 20) (hl : W.length ≤ 100) {i : Nat} (c : Int) {n : Nat} (hn : 1 ≤ n) (h1 : i + n ≤ 20) :
    Con Try.prog 21 [diskD (newS 20) W (-1) false, .int .i64 (i : Int), .sl (bytes (allS c (n : Int)))] True (.tup [diskD (newS 20) (W ++ runW (i : Int) (secA c) n) (-1) false, .int .i64 0]) := by
  have h2 := con_wr n h ⟨by rw [newS_len]; omega, by omega⟩ (by omega) (by omega) (b := allS c (n : Int)) (by rw [all_len, Int.toNat_natCast]) hn (i := (i : Int)) (by omega) (by omega) (L := -1) (by omega) (by omega) (by omega)
  rw [addW_all] at h2
  exact h2


theorem c_bursarlaw04_DiskApart (qa qn qm a b : Int) (hC : (0 ≤ qa ∧ qa < 256) ∧ (0 ≤ qn ∧ qn < 256) ∧ (0 ≤ qm ∧ qm < 256) ∧ (0 ≤ a ∧ a < 256) ∧ 0 ≤ b ∧ b < 256) : Pure Try.prog n_bursarlaw04_DiskApart [.agg [.int .u8 qa, .int .u8 qn, .int .u8 qm, .int .u8 a, .int .u8 b]] (.bool true) := by
  refine Pure.go tok (rs := [.tmp 2]) [.agg [.int .u8 qa, .int .u8 qn, .int .u8 qm, .int .u8 a, .int .u8 b], .undef, .undef, .undef, .undef, .undef, .undef, .undef, .undef, .undef, .undef, .undef, .undef, .undef, .undef, .undef, .undef, .undef, .undef, .undef, .undef, .undef, .undef, .undef, .undef, .undef, .undef, .undef, .undef, .undef, .undef, .undef, .undef, .undef, .undef, .undef, .undef, .undef, .undef, .undef, .undef, .undef, .undef, .undef, .undef, .undef, .undef, .undef, .undef, .undef, .undef, .undef, .undef, .undef, .undef, .undef, .undef, .undef, .undef, .undef, .undef, .undef, .undef, .undef, .undef, .undef, .undef, .undef, .undef, .undef, .undef, .undef, .undef, .undef, .undef, .undef, .undef, .undef, .undef, .undef, .undef, .undef, .undef, .undef, .undef, .undef, .undef, .undef, .undef, .undef, .undef, .undef, .undef, .undef, .undef, .undef, .undef, .undef, .undef, .undef, .undef, .undef, .undef, .undef, .undef, .undef, .undef, .undef, .undef, .undef, .undef, .undef, .undef, .undef, .undef, .undef, .undef, .undef, .undef, .undef, .undef, .undef, .undef, .undef, .undef, .undef, .undef, .undef, .undef, .undef, .undef, .undef, .undef, .undef, .undef, .undef, .undef, .undef, .undef, .undef, .undef, .undef, .undef, .undef, .undef, .undef, .undef, .undef, .undef, .undef, .undef, .undef, .undef, .undef, .undef, .undef, .undef, .undef, .undef] Try.func11 (fun σ => ?_)
  obtain ⟨xa, rfl⟩ : ∃ m : Nat, qa = m := ⟨qa.toNat, by omega⟩
  obtain ⟨xn, rfl⟩ : ∃ m : Nat, qn = m := ⟨qn.toNat, by omega⟩
  obtain ⟨xm, rfl⟩ : ∃ m : Nat, qm = m := ⟨qm.toNat, by omega⟩
  have ta : Int.tmod (xa : Int) 8 = ((xa % 8 : Nat) : Int) := tmod_nat _ 8
  have tn : Int.tmod (xn : Int) 5 = ((xn % 5 : Nat) : Int) := tmod_nat _ 5
  have tm : Int.tmod (xm : Int) 5 = ((xm % 5 : Nat) : Int) := tmod_nat _ 5
  have la : xa % 8 < 8 := Nat.mod_lt _ (by omega)
  have ln : xn % 5 < 5 := Nat.mod_lt _ (by omega)
  have lm : xm % 5 < 5 := Nat.mod_lt _ (by omega)
  obtain ⟨i, hi⟩ : ∃ i, i = xa % 8 := ⟨_, rfl⟩
  obtain ⟨k0, hk0⟩ : ∃ i, i = xn % 5 := ⟨_, rfl⟩
  obtain ⟨w0, hw0⟩ : ∃ i, i = xm % 5 := ⟨_, rfl⟩
  rw [← hi] at ta la
  rw [← hk0] at tn ln
  rw [← hw0] at tm lm
  obtain ⟨k, hk⟩ : ∃ k : Nat, (1 : Int) + (k0 : Int) = (k : Int) := ⟨1 + k0, by omega⟩
  obtain ⟨w, hw⟩ : ∃ w : Nat, (1 : Int) + (w0 : Int) = (w : Int) := ⟨1 + w0, by omega⟩
  have hj : (i : Int) + (k : Int) = ((i + k : Nat) : Int) := by omega
  have hkw : (k : Int) + (w : Int) = ((k + w : Nat) : Int) := by omega
  have g0 := new_good 20
  have g1 : goodS (newS 20) (runW (i : Int) (secA a) k) 20 := by have h := run_good g0 (i := i) a (n := k) (by omega); exact h
  have g2 : goodS (newS 20) (runW ((i + k : Nat) : Int) (secA b) w) 20 := by have h := run_good g0 (i := i + k) b (n := w) (by omega); exact h
  have l1 : (runW (i : Int) (secA a) k).length ≤ 20 := by simp [runW]; omega
  have l2 : (runW ((i + k : Nat) : Int) (secA b) w).length ≤ 20 := by simp [runW]; omega
  have g3 := run_good g1 (i := i + k) b (n := w) (by omega)
  have g4 := run_good g2 (i := i) a (n := k) (by omega)
  have hP := flush_apart (newS 20) i (i + k) (secA a) (secA b) k w (by omega)
  have hR := read_apart a b i k w (by omega)
  have gP := flush_good g3
  have iN : Con Try.prog 20 [.int .i64 20] True (.tup [diskD (newS 20) [] (-1) false, .int .i64 0]) := con_eq (i_disk_New 20) trivial rfl
  have i1 : Con Try.prog 21 [diskD (newS 20) [] (-1) false, .int .i64 (i : Int), .sl (bytes (allS a (k : Int)))] True (.tup [diskD (newS 20) (runW (i : Int) (secA a) k) (-1) false, .int .i64 0]) := con_all g0 (by simp) a (by omega) (by omega)
  have i2 := con_all g1 (by omega) (i := i + k) b (n := w) (by omega) (by omega)
  have i3 : Con Try.prog 21 [diskD (newS 20) [] (-1) false, .int .i64 ((i + k : Nat) : Int), .sl (bytes (allS b (w : Int)))] True (.tup [diskD (newS 20) (runW ((i + k : Nat) : Int) (secA b) w) (-1) false, .int .i64 0]) := con_all g0 (by simp) b (by omega) (by omega)
  have i4 := con_all g2 (by omega) (i := i) a (n := k) (by omega) (by omega)
  have i5 := con_fl g3 ⟨by rw [newS_len]; omega, by rw [List.length_append]; omega⟩ (by omega) (by omega) (L := -1) (by omega) (by omega) (by omega)
  have i6 := con_fl g4 ⟨by rw [newS_len]; omega, by rw [List.length_append]; omega⟩ (by omega) (by omega) (L := -1) (by omega) (by omega) (by omega)
  rw [← hP] at i6
  have hPl : (flushS (newS 20) (runW (i : Int) (secA a) k ++ runW ((i + k : Nat) : Int) (secA b) w)).length = 20 := gP.1.1
  have i7 : Con Try.prog 36 [diskD (flushS (newS 20) (runW (i : Int) (secA a) k ++ runW ((i + k : Nat) : Int) (secA b) w)) [] (-1) false, .int .i64 (i : Int), .int .i64 ((k + w : Nat) : Int)] True (.tup [.sl (bytes (allS a (k : Int) ++ allS b (w : Int))), .int .i64 0]) := by
    rw [← hR]
    exact ⟨fun _ => c_disk_Read _ (-1) i (k + w) ⟨⟨by rw [hPl]; exact gP, by omega, by omega, by omega⟩, by omega⟩⟩
  have e1 : leftL (-1) 1 = -1 := by decide
  rw [e1] at i5 i6
  generalize flushS (newS 20) (runW (i : Int) (secA a) k ++ runW ((i + k : Nat) : Int) (secA b) w) = PP at *
  have hzP : szP PP [] ∧ szP PP [] := ⟨⟨by omega, by simp⟩, ⟨by omega, by simp⟩⟩
  repeat' (first | (show DrD _ (EP _) _ (_ :: _) _ _ _ _; first | refine D_runLP tok ?_ ?_ (h := by intro R r M; simp (maxSteps := 1000000) (disch := omega) only [go_sem, ta, tn, tm, hk, hw, hj, hkw, wrap_i64_id, wrap_u8_id]; with_reducible exact rfl)) | (show Ev _ (.region _ _ true) _ _; first | refine D_start [13, 41, 42, 46, 60] mix ?_ | refine D_startA [13, 41, 42, 46, 60, 99998] mix ?_ | refine D_startP [13, 41, 42, 46, 60] mix ?_) | (show DrD _ _ _ [] _ _ _ _; refine D_nil ?_; try dsimp only) | (show DrD _ _ _ (⟨_, _, _, _, _, some _⟩ :: _) _ _ _ _; first | refine D_grdY ?_ | refine D_grdN ?_ | refine D_grdP (fun h => ?_) (fun h => ?_) | refine D_grdB (fun h => ?_) (fun h => ?_)) | (show DrD _ (EB _ _) _ (_ :: _) _ _ _ _; first | refine D_runL tok ?_ ?_ (h := by intro R; simp (maxSteps := 1000000) (disch := omega) only [go_sem, ta, tn, tm, hk, hw, hj, hkw, wrap_i64_id, wrap_u8_id]; with_reducible exact rfl)) | (show DrD _ EA _ (_ :: _) _ _ _ _; first | refine D_runLA tok ?_ ?_ (h := by intro R; simp (maxSteps := 1000000) (disch := omega) only [go_sem, ta, tn, tm, hk, hw, hj, hkw, wrap_i64_id, wrap_u8_id]; with_reducible exact rfl)) | (show DrD _ (ES _) _ (_ :: _) _ _ _ _; first | refine D_runLE tok ?_ ?_ (h := by simp (maxSteps := 1000000) (disch := omega) only [go_sem, ta, tn, tm, hk, hw, hj, hkw, wrap_i64_id, wrap_u8_id]; with_reducible exact rfl)) | (show DrD _ _ _ (_ :: _) _ _ _ _; first | refine D_con ?_ ?_ | refine D_own ?_ ?_ | refine D_app ?_ ?_ ?_ | refine D_store tok ?_ ?_ | refine D_eff tok ?_ ?_ | refine D_hold tok ?_ ?_) | (show Ev _ _ _ _; first | refine Ev_seq ?_ | refine W_reg ?_ | refine Ev_block ?_ | refine W_ifT ?_ | refine W_ifF ?_ | refine W_ifY ?_ | refine W_ifN ?_ | refine W_ifP (fun h => ?_) (fun h => ?_) | refine W_ifB (fun h => ?_) (fun h => ?_) | refine Ev_skip ?_ | refine Ev_exit ?_ | refine Ev_ret ?_) | (show EvD _ _ [] _ _ _; refine W_nil ?_) | (show EvD _ _ (⟨_, _, _, _, _, some _⟩ :: _) _ _ _; first | refine W_grdY ?_ | refine W_grdN ?_ | refine W_grdP (fun h => ?_) (fun h => ?_) | refine W_grdB (fun h => ?_) (fun h => ?_)) | (show EvD _ _ (⟨some _, .buildSlice _ _ _, _, _, _, none⟩ :: ⟨some _, .convert _ _ (.tmp _), _, _, _, none⟩ :: _) _ _ _; refine W_lit tok ?_ ?_) | (show EvD _ _ (_ :: _) _ _ _; first | refine W_run tok ?_ ?_ (by simp (maxSteps := 1000000) (disch := omega) only [go_sem, ta, tn, tm, hk, hw, hj, hkw, wrap_i64_id, wrap_u8_id]; with_reducible exact rfl) | refine W_callee ?_ | refine W_frz ?_ | refine W_isnil tok (fun qn hqn => ?_)) | (show EvC _ _ _ _ _ _ _ _ _; first | refine W_con ?_ ?_ | refine W_conOwn ?_ ?_ | refine W_conT ?_ ?_ | refine W_conApp ?_ ?_ ?_ | refine W_weak ?_ | refine W_frzArg ?_ | refine W_box ?_) | (show EvB _ _ _ _ _ _ _ _ _ _ _ _; refine W_conP ?_ ?_) | (show RetQ _ _ (RP _ _) _ _; refine R_ret ?_ ?_) | (show RetQ _ _ (RO _ _ _ _) _ _; refine R_own ?_ ?_) | (show RetQ _ _ (RX _ ⟨_, List.set _ _ _, _⟩ _ [] [] []) _ _; first | refine R_p0 ?_ ?_ ?_ | refine R_p0s hB ?_ ?_ ?_) | (show RetQ _ _ (RX _ _ _ [] [] []) _ _; refine R_x0 ?_ ?_) | (show RetQ _ _ (RX _ _ _ [_] [] []) _ _; refine R_xr ?_ (by intro p q s hp; simp only [DV.ren, rens, hp]; exact rfl) ?_) | (show RetQ _ _ (RX _ _ _ [] [_] []) _ _; refine R_xb ?_ (by intro p q s hp; simp only [DV.ren, rens, hp]; exact rfl) ?_) | (show FrzTo _ _ _ _; first | refine F_row ?_ | refine F_weak ?_) | refine Q_thenN ?_ | refine Q_thenE ?_ | refine Q_thenR ?_ | refine Q_blkN ?_ | refine Q_blkE ?_ | (show blockQ _ _ _ _; refine Q_blkX ?_) | refine Q_blkR ?_ | refine Q_rndE ?_ | refine Q_rndR ?_)
  all_goals (try first | exact trivial | omega | (simp only [List.length_take, List.length_drop, List.length_append, List.length_replicate, List.length_cons, List.length_nil, bytes_len, beN_len, Int.reduceToNat, true_and, and_true]; omega))
  all_goals (try refine F_done ?_)
  all_goals first | rfl | (rw [all_len, all_len]; omega)
instance i_bursarlaw04_DiskApart (qa qn qm a b : Int) : Con Try.prog 11 [.agg [.int .u8 qa, .int .u8 qn, .int .u8 qm, .int .u8 a, .int .u8 b]] ((0 ≤ qa ∧ qa < 256) ∧ (0 ≤ qn ∧ qn < 256) ∧ (0 ≤ qm ∧ qm < 256) ∧ (0 ≤ a ∧ a < 256) ∧ 0 ≤ b ∧ b < 256) (.bool true) := ⟨c_bursarlaw04_DiskApart qa qn qm a b ⟩
end Go.Val.Ytkmhdefcflidhaa
