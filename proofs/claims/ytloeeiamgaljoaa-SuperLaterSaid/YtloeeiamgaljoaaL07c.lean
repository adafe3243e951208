/- Chapter 07, the laws, walked. -/
import Derived.Test.YtloeeiamgaljoaaL07b
namespace Go.Val.Ytloeeiamgaljoaa
open Go Go.Val Go.Proofs Go.Proofs.Ytloeeiamgaljoaa
attribute [local irreducible] Ev EvD EvC thenQ blockQ RoundG RetQ
set_option maxRecDepth 100000
set_option maxHeartbeats 4000000
set_option linter.unusedSimpArgs false
set_option linter.unusedVariables false







theorem cut_mid (p m r : List UInt8) (i j : Nat) (hi : p.length = i) (hj : j = i + m.length) : ((p ++ (m ++ r)).take j).drop i = m := by
  subst hi; subst hj
  rw [List.drop_take, Nat.add_sub_cancel_left, List.drop_left, List.take_left]
theorem secV_sec (g h n p : Nat) (hg : g < 281474976710656) (hh : h < 256) (hn : n < 281474976710656) (hp : p < 65536) :
    secV (sealD (superRaw g h n p)) 4 10 = g ∧ secV (sealD (superRaw g h n p)) 10 11 = h ∧ secV (sealD (superRaw g h n p)) 11 17 = n ∧ secV (sealD (superRaw g h n p)) 17 19 = p := by
  unfold sealD superRaw
  generalize sumD _ = z
  refine ⟨?_, ?_, ?_, ?_⟩
  · unfold secV
    rw [show ([98, 115, 117, 112] ++ beN 6 g ++ beN 1 h ++ beN 6 n ++ beN 2 p ++ List.replicate 41 0) ++ z = [98, 115, 117, 112] ++ (beN 6 g ++ (beN 1 h ++ beN 6 n ++ beN 2 p ++ List.replicate 41 0 ++ z)) by simp, cut_mid [98, 115, 117, 112] _ _ 4 10 (by rfl) (by simp [beN_len]), numN_beN]
    omega
  · unfold secV
    rw [show ([98, 115, 117, 112] ++ beN 6 g ++ beN 1 h ++ beN 6 n ++ beN 2 p ++ List.replicate 41 0) ++ z = ([98, 115, 117, 112] ++ beN 6 g) ++ (beN 1 h ++ (beN 6 n ++ beN 2 p ++ List.replicate 41 0 ++ z)) by simp, cut_mid _ _ _ _ _ (by simp [beN_len]) (by simp [beN_len]), numN_beN]
    omega
  · unfold secV
    rw [show ([98, 115, 117, 112] ++ beN 6 g ++ beN 1 h ++ beN 6 n ++ beN 2 p ++ List.replicate 41 0) ++ z = ([98, 115, 117, 112] ++ beN 6 g ++ beN 1 h) ++ (beN 6 n ++ (beN 2 p ++ List.replicate 41 0 ++ z)) by simp, cut_mid _ _ _ _ _ (by simp [beN_len]) (by simp [beN_len]), numN_beN]
    omega
  · unfold secV
    rw [show ([98, 115, 117, 112] ++ beN 6 g ++ beN 1 h ++ beN 6 n ++ beN 2 p ++ List.replicate 41 0) ++ z = ([98, 115, 117, 112] ++ beN 6 g ++ beN 1 h ++ beN 6 n) ++ (beN 2 p ++ (List.replicate 41 0 ++ z)) by simp, cut_mid _ _ _ _ _ (by simp [beN_len]) (by simp [beN_len]), numN_beN]
    omega
theorem superSec_len (g h n p : Int) : (superSec g h n p).length = 64 := by
  unfold superSec sealD; rw [List.length_append, superRaw_len]; rfl
theorem dec_sec {g h n p : Int} (hm : maySP g h n p) : decE (superSec g h n p) = 0 ∧ decV (superSec g h n p) 4 10 = g ∧ decV (superSec g h n p) 10 11 = h ∧ decV (superSec g h n p) 11 17 = n ∧ decV (superSec g h n p) 17 19 = p := by
  obtain ⟨e1, e2, e3, e4⟩ := secV_sec g.toNat h.toNat n.toNat p.toNat (by omega) (by omega) (by omega) (by omega)
  have f1 : ((secV (superSec g h n p) 4 10 : Nat) : Int) = g := by unfold superSec; rw [e1]; omega
  have f2 : ((secV (superSec g h n p) 10 11 : Nat) : Int) = h := by unfold superSec; rw [e2]; omega
  have f3 : ((secV (superSec g h n p) 11 17 : Nat) : Int) = n := by unfold superSec; rw [e3]; omega
  have f4 : ((secV (superSec g h n p) 17 19 : Nat) : Int) = p := by unfold superSec; rw [e4]; omega
  have ho : (openD (superSec g h n p)).2 = 0 := by unfold superSec; rw [open_seal]
  have hs : secG (superSec g h n p) := by unfold secG; rw [f1, f2, f3, f4]; exact ⟨hm, rfl⟩
  have h0 : decE (superSec g h n p) = 0 := by
    unfold decE
    rw [if_neg (by rw [superSec_len]; simp), if_neg (by rw [ho]; simp), if_pos hs]
  refine ⟨h0, ?_, ?_, ?_, ?_⟩ <;> simp only [decV, h0, if_true, f1, f2, f3, f4]
theorem c_bursarlaw07_SuperCodes (g h n p : Int) (b : List UInt8) (hC : True) : Pure Try.prog n_bursarlaw07_SuperCodes [superD g h n p, .sl (bytes b)] (.bool true) := by
  refine Pure.go tok (rs := [.tmp 4]) [superD g h n p, .sl (bytes b), .undef, .undef, .undef, .undef, .undef, .undef, .undef, .undef, .undef, .undef, .undef, .undef, .undef, .undef, .undef, .undef, .undef, .undef, .undef, .undef, .undef, .undef, .undef, .undef, .undef, .undef, .undef, .undef, .undef, .undef, .undef, .undef, .undef, .undef, .undef, .undef, .undef, .undef, .undef, .undef, .undef, .undef, .undef, .undef, .undef, .undef, .undef, .undef, .undef, .undef, .undef, .undef, .undef, .undef, .undef, .undef, .undef, .undef, .undef, .undef, .undef, .undef, .undef, .undef, .undef, .undef, .undef, .undef, .undef, .undef, .undef, .undef, .undef, .undef, .undef, .undef, .undef, .undef, .undef, .undef, .undef, .undef, .undef] Try.func10 (fun σ => ?_)
  have lb : (b.take 100).length ≤ 100 := by simp; omega
  by_cases hm : maySP g h n p
  · obtain ⟨d0, d1, d2, d3, d4⟩ := dec_sec hm
    have hl := superSec_len g h n p
    repeat' (first | (show Ev _ (.region _ _ true) _ _; first | refine D_start [18, 34, 40, 45] mix ?_ | refine D_startA [18, 34, 40, 45, 99998] mix ?_ | refine D_startA [18, 34, 40, 45] mix ?_) | (show DrD _ _ _ [] _ _ _ _; refine D_nil ?_; try dsimp only) | (show DrD _ _ _ (⟨_, _, _, _, _, some _⟩ :: _) _ _ _ _; first | refine D_grdY ?_ | refine D_grdN ?_ | refine D_grdP (fun h => ?_) (fun h => ?_) | refine D_grdB (fun h => ?_) (fun h => ?_)) | (show DrD _ (EB _ _) _ (_ :: _) _ _ _ _; first | refine D_runL tok ?_ ?_ (h := by intro R; simp (maxSteps := 1000000) (disch := omega) only [go_sem, wrap_i64_id, (if_pos hm), d0, d1, d2, d3, d4, hl]; with_reducible exact rfl)) | (show DrD _ EA _ (_ :: _) _ _ _ _; first | refine D_runLA tok ?_ ?_ (h := by intro R; simp (maxSteps := 1000000) (disch := omega) only [go_sem, wrap_i64_id, (if_pos hm), d0, d1, d2, d3, d4, hl]; with_reducible exact rfl)) | (show DrD _ (ES _) _ (_ :: _) _ _ _ _; first | refine D_runLE tok ?_ ?_ (h := by simp (maxSteps := 1000000) (disch := omega) only [go_sem, wrap_i64_id, (if_pos hm), d0, d1, d2, d3, d4, hl]; with_reducible exact rfl)) | (show DrD _ _ _ (_ :: _) _ _ _ _; first | refine D_con ?_ ?_ | refine D_own ?_ ?_ | refine D_app ?_ ?_ ?_ | refine D_store tok ?_ ?_ | refine D_eff tok ?_ ?_ | refine D_hold tok ?_ ?_) | (show Ev _ _ _ _; first | refine Ev_seq ?_ | refine W_reg ?_ | refine Ev_block ?_ | refine W_ifT ?_ | refine W_ifF ?_ | refine W_ifY ?_ | refine W_ifN ?_ | refine W_ifP (fun h => ?_) (fun h => ?_) | refine W_ifB (fun h => ?_) (fun h => ?_) | refine Ev_skip ?_ | refine Ev_exit ?_ | refine Ev_ret ?_) | (show EvD _ _ [] _ _ _; refine W_nil ?_) | (show EvD _ _ (⟨_, _, _, _, _, some _⟩ :: _) _ _ _; first | refine W_grdY ?_ | refine W_grdN ?_ | refine W_grdP (fun h => ?_) (fun h => ?_) | refine W_grdB (fun h => ?_) (fun h => ?_)) | (show EvD _ _ (⟨some _, .buildSlice _ _ _, _, _, _, none⟩ :: ⟨some _, .convert _ _ (.tmp _), _, _, _, none⟩ :: _) _ _ _; refine W_lit tok ?_ ?_) | (show EvD _ _ (_ :: _) _ _ _; first | refine W_run tok ?_ ?_ (by simp (maxSteps := 1000000) (disch := omega) only [go_sem, wrap_i64_id, (if_pos hm), d0, d1, d2, d3, d4, hl]; with_reducible exact rfl) | refine W_callee ?_ | refine W_frz ?_ | refine W_isnil tok (fun qn hqn => ?_)) | (show EvC _ _ _ _ _ _ _ _ _; first | refine W_con ?_ ?_ | refine W_conOwn ?_ ?_ | refine W_conT ?_ ?_ | refine W_conApp ?_ ?_ ?_ | refine W_weak ?_ | refine W_frzArg ?_ | refine W_box ?_) | (show EvB _ _ _ _ _ _ _ _ _ _ _ _; refine W_conP ?_ ?_) | (show RetQ _ _ (RP _ _) _ _; refine R_ret ?_ ?_) | (show RetQ _ _ (RO _ _ _ _) _ _; refine R_own ?_ ?_) | (show RetQ _ _ (RX _ ⟨_, List.set _ _ _, _⟩ _ [] [] []) _ _; first | refine R_p0 ?_ ?_ ?_ | refine R_p0s hB ?_ ?_ ?_) | (show RetQ _ _ (RX _ _ _ [] [] []) _ _; refine R_x0 ?_ ?_) | (show RetQ _ _ (RX _ _ _ [_] [] []) _ _; refine R_xr ?_ (by intro p q s hp; simp only [DV.ren, rens, hp]; exact rfl) ?_) | (show RetQ _ _ (RX _ _ _ [] [_] []) _ _; refine R_xb ?_ (by intro p q s hp; simp only [DV.ren, rens, hp]; exact rfl) ?_) | (show FrzTo _ _ _ _; first | refine F_row ?_ | refine F_weak ?_) | refine Q_thenN ?_ | refine Q_thenE ?_ | refine Q_thenR ?_ | refine Q_blkN ?_ | refine Q_blkE ?_ | (show blockQ _ _ _ _; refine Q_blkX ?_) | refine Q_blkR ?_ | refine Q_rndE ?_ | refine Q_rndR ?_)
    all_goals (try first | exact trivial | omega | (simp only [List.length_take, List.length_drop, List.length_append, List.length_replicate, List.length_cons, List.length_nil, bytes_len, beN_len, Int.reduceToNat, true_and, and_true]; omega))
    all_goals (try refine F_done ?_)
    all_goals rfl
  · repeat' (first | (show Ev _ (.region _ _ true) _ _; first | refine D_start [18, 34, 40, 45] mix ?_ | refine D_startA [18, 34, 40, 45, 99998] mix ?_ | refine D_startA [18, 34, 40, 45] mix ?_) | (show DrD _ _ _ [] _ _ _ _; refine D_nil ?_; try dsimp only) | (show DrD _ _ _ (⟨_, _, _, _, _, some _⟩ :: _) _ _ _ _; first | refine D_grdY ?_ | refine D_grdN ?_ | refine D_grdP (fun h => ?_) (fun h => ?_) | refine D_grdB (fun h => ?_) (fun h => ?_)) | (show DrD _ (EB _ _) _ (_ :: _) _ _ _ _; first | refine D_runL tok ?_ ?_ (h := by intro R; simp (maxSteps := 1000000) (disch := omega) only [go_sem, wrap_i64_id, (if_neg hm)]; with_reducible exact rfl)) | (show DrD _ EA _ (_ :: _) _ _ _ _; first | refine D_runLA tok ?_ ?_ (h := by intro R; simp (maxSteps := 1000000) (disch := omega) only [go_sem, wrap_i64_id, (if_neg hm)]; with_reducible exact rfl)) | (show DrD _ (ES _) _ (_ :: _) _ _ _ _; first | refine D_runLE tok ?_ ?_ (h := by simp (maxSteps := 1000000) (disch := omega) only [go_sem, wrap_i64_id, (if_neg hm)]; with_reducible exact rfl)) | (show DrD _ _ _ (_ :: _) _ _ _ _; first | refine D_con ?_ ?_ | refine D_own ?_ ?_ | refine D_app ?_ ?_ ?_ | refine D_store tok ?_ ?_ | refine D_eff tok ?_ ?_ | refine D_hold tok ?_ ?_) | (show Ev _ _ _ _; first | refine Ev_seq ?_ | refine W_reg ?_ | refine Ev_block ?_ | refine W_ifT ?_ | refine W_ifF ?_ | refine W_ifY ?_ | refine W_ifN ?_ | refine W_ifP (fun h => ?_) (fun h => ?_) | refine W_ifB (fun h => ?_) (fun h => ?_) | refine Ev_skip ?_ | refine Ev_exit ?_ | refine Ev_ret ?_) | (show EvD _ _ [] _ _ _; refine W_nil ?_) | (show EvD _ _ (⟨_, _, _, _, _, some _⟩ :: _) _ _ _; first | refine W_grdY ?_ | refine W_grdN ?_ | refine W_grdP (fun h => ?_) (fun h => ?_) | refine W_grdB (fun h => ?_) (fun h => ?_)) | (show EvD _ _ (⟨some _, .buildSlice _ _ _, _, _, _, none⟩ :: ⟨some _, .convert _ _ (.tmp _), _, _, _, none⟩ :: _) _ _ _; refine W_lit tok ?_ ?_) | (show EvD _ _ (_ :: _) _ _ _; first | refine W_run tok ?_ ?_ (by simp (maxSteps := 1000000) (disch := omega) only [go_sem, wrap_i64_id, (if_neg hm)]; with_reducible exact rfl) | refine W_callee ?_ | refine W_frz ?_ | refine W_isnil tok (fun qn hqn => ?_)) | (show EvC _ _ _ _ _ _ _ _ _; first | refine W_con ?_ ?_ | refine W_conOwn ?_ ?_ | refine W_conT ?_ ?_ | refine W_conApp ?_ ?_ ?_ | refine W_weak ?_ | refine W_frzArg ?_ | refine W_box ?_) | (show EvB _ _ _ _ _ _ _ _ _ _ _ _; refine W_conP ?_ ?_) | (show RetQ _ _ (RP _ _) _ _; refine R_ret ?_ ?_) | (show RetQ _ _ (RO _ _ _ _) _ _; refine R_own ?_ ?_) | (show RetQ _ _ (RX _ ⟨_, List.set _ _ _, _⟩ _ [] [] []) _ _; first | refine R_p0 ?_ ?_ ?_ | refine R_p0s hB ?_ ?_ ?_) | (show RetQ _ _ (RX _ _ _ [] [] []) _ _; refine R_x0 ?_ ?_) | (show RetQ _ _ (RX _ _ _ [_] [] []) _ _; refine R_xr ?_ (by intro p q s hp; simp only [DV.ren, rens, hp]; exact rfl) ?_) | (show RetQ _ _ (RX _ _ _ [] [_] []) _ _; refine R_xb ?_ (by intro p q s hp; simp only [DV.ren, rens, hp]; exact rfl) ?_) | (show FrzTo _ _ _ _; first | refine F_row ?_ | refine F_weak ?_) | refine Q_thenN ?_ | refine Q_thenE ?_ | refine Q_thenR ?_ | refine Q_blkN ?_ | refine Q_blkE ?_ | (show blockQ _ _ _ _; refine Q_blkX ?_) | refine Q_blkR ?_ | refine Q_rndE ?_ | refine Q_rndR ?_)
    all_goals (try first | exact trivial | omega | (simp only [List.length_take, List.length_drop, List.length_append, List.length_replicate, List.length_cons, List.length_nil, bytes_len, beN_len, Int.reduceToNat, true_and, and_true]; omega))
    all_goals (try refine F_done ?_)
    all_goals rfl
instance i_bursarlaw07_SuperCodes (g h n p : Int) (b : List UInt8) : Con Try.prog 10 [superD g h n p, .sl (bytes b)] (True) (.bool true) := ⟨c_bursarlaw07_SuperCodes g h n p  b ⟩
end Go.Val.Ytloeeiamgaljoaa
