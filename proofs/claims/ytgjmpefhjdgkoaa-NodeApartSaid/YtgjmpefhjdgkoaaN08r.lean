/- Chapter 08: three laws, walked. -/
import Derived.Test.YtgjmpefhjdgkoaaN08q
namespace Go.Val.Ytgjmpefhjdgkoaa
open Go Go.Val Go.Proofs Go.Proofs.Ytgjmpefhjdgkoaa
attribute [local irreducible] Ev EvD EvC thenQ blockQ RoundG RetQ
set_option maxRecDepth 100000
set_option maxHeartbeats 4000000
set_option linter.unusedSimpArgs false
set_option linter.unusedVariables false
theorem getD_mem2 {α : Type} {l : List α} {i : Nat} (h : i < l.length) (d : α) : l.getD i d ∈ l := by
 rw [List.getD_eq_getElem?_getD, List.getElem?_eq_getElem h, Option.getD_some]; exact List.getElem_mem h
theorem lenP_of {P : List PairB} (h : ∀ a ∈ P, a.1.length ≤ 9223372036854775807 ∧ a.2.length ≤ 9223372036854775807) : lenP P := fun _ hi => h _ (getD_mem2 hi _)
theorem lenK_of {K : List (List UInt8)} (h : ∀ a ∈ K, a.length ≤ 9223372036854775807) : lenK K := fun _ hi => h _ (getD_mem2 hi _)
theorem decN_len (b : List UInt8) : (decN b).1.length < 1000 ∧ (decN b).2.1.length < 1000 ∧ (decN b).2.2.1.length < 1000 := by
 have hp : (parsN (openD b).1).1.length < 1000 ∧ (parsN (openD b).1).2.1.length < 1000 ∧ (parsN (openD b).1).2.2.length < 1000 := by
  unfold parsN
  have h1 := rdB_lt (openD b).1
  have h2 := rdB_lt ((openD b).1.drop 1)
  split
  ·have := (prP_len (((openD b).1.drop 1).drop 1) (rdB ((openD b).1.drop 1))).1
   refine ⟨by simp only; omega, by simp, by simp⟩
  ·have h3 := (prC_len ((openD b).1.drop 1) (rdB (openD b).1)).1
   have h4 := (prK_len (prC (rdB (openD b).1) ((openD b).1.drop 1)).2 (rdB (openD b).1 - 1)).1
   refine ⟨by simp, by simp only; omega, by simp only; omega⟩
 unfold decN
 split
 ·split
  ·split
   ·exact hp
   ·exact ⟨by simp, by simp, by simp⟩
  ·exact ⟨by simp, by simp, by simp⟩
 ·exact ⟨by simp, by simp, by simp⟩
theorem c_bursarlaw08_NodeDecodes (b0 : List UInt8) (hC : b0.length ≤ 140737488355328) : Pure Try.prog n_bursarlaw08_NodeDecodes [.sl (bytes b0)] (.bool true) := by
 refine Pure.go tok (rs := [.tmp 2]) [.sl (bytes b0), .undef, .undef, .undef, .undef, .undef, .undef, .undef, .undef, .undef, .undef, .undef, .undef, .undef, .undef, .undef, .undef, .undef, .undef, .undef, .undef, .undef, .undef, .undef, .undef, .undef, .undef, .undef, .undef, .undef, .undef, .undef, .undef, .undef] Try.func6 (fun σ => ?_)
 have hl := decN_len (b0.take 520)
 have e1 : bytes b0 = bytes b0 := rfl
 obtain ⟨b, hb⟩ : ∃ b, b = b0.take 520 := ⟨_, rfl⟩
 have hbl : b.length ≤ 520 := by rw [hb, List.length_take]; omega
 have i1 := i_node_Decode b
 have i2 := i_bursarref08_Decode b
 rw [← dec_same] at i2
 rw [← hb] at hl
 obtain ⟨⟨P, K, C, e⟩, hd⟩ : ∃ q, q = decN b := ⟨_, rfl⟩
 rw [← hd] at i1 i2 hl
 simp only at i1 i2 hl
 have i3 := i_bursarref08_Same P K C P K C
 simp only [decide_true, Bool.and_self] at i3
 by_cases h : 520 < b0.length
 ·have ht : (bytes b0).take 520 = bytes b := by rw [hb, bytes_take]
  repeat' (first | (show Ev _ _ _ _; first | refine Ev_seq ?_ | refine W_reg ?_ | refine W_ifT ?_ | refine W_ifF ?_ | refine W_ifY ?_ | refine W_ifN ?_ | refine W_ifP (fun h => ?_) (fun h => ?_) | refine W_ifB (fun h => ?_) (fun h => ?_) | refine Ev_skip ?_ | refine Ev_exit ?_ | refine Ev_ret ?_) | (show EvD _ _ [] _ _ _; refine W_nil ?_) | (show EvD _ _ (⟨_, _, _, _, _, some _⟩ :: _) _ _ _; first | refine W_grdY ?_ | refine W_grdN ?_ | refine W_grdP (fun h => ?_) (fun h => ?_) | refine W_grdB (fun h => ?_) (fun h => ?_)) | (show EvD _ _ (_ :: _) _ _ _; first | refine W_run tok ?_ ?_ (by simp (maxSteps := 1000000) (disch := omega) only [go_sem, wrap_i64_id, List.drop_zero, ht, (Int.toNat_natCast), (show ((520 : Int).toNat) = 520 from rfl), (hb.symm)]; with_reducible exact rfl) | refine W_callee ?_) | (show EvC _ _ _ _ _ _ _ _ _; first | refine W_con ?_ ?_ | refine W_weak ?_) | (show RetQ _ _ (RP _ _) _ _; refine R_ret ?_ ?_) | (show FrzTo _ _ _ _; first | refine F_row ?_ | refine F_weak ?_) | refine Q_thenN ?_ | refine Q_thenE ?_ | refine Q_thenR ?_)
  all_goals (try exact sd)
  all_goals (try refine F_done ?_)
  all_goals rfl
 ·have hb0 : b = b0 := by rw [hb, List.take_of_length_le (by omega)]
  subst hb0
  repeat' (first | (show Ev _ _ _ _; first | refine Ev_seq ?_ | refine W_reg ?_ | refine W_ifT ?_ | refine W_ifF ?_ | refine W_ifY ?_ | refine W_ifN ?_ | refine W_ifP (fun h => ?_) (fun h => ?_) | refine W_ifB (fun h => ?_) (fun h => ?_) | refine Ev_skip ?_ | refine Ev_exit ?_ | refine Ev_ret ?_) | (show EvD _ _ [] _ _ _; refine W_nil ?_) | (show EvD _ _ (⟨_, _, _, _, _, some _⟩ :: _) _ _ _; first | refine W_grdY ?_ | refine W_grdN ?_ | refine W_grdP (fun h => ?_) (fun h => ?_) | refine W_grdB (fun h => ?_) (fun h => ?_)) | (show EvD _ _ (_ :: _) _ _ _; first | refine W_run tok ?_ ?_ (by simp (maxSteps := 1000000) (disch := omega) only [go_sem, wrap_i64_id]; with_reducible exact rfl) | refine W_callee ?_) | (show EvC _ _ _ _ _ _ _ _ _; first | refine W_con ?_ ?_ | refine W_weak ?_) | (show RetQ _ _ (RP _ _) _ _; refine R_ret ?_ ?_) | (show FrzTo _ _ _ _; first | refine F_row ?_ | refine F_weak ?_) | refine Q_thenN ?_ | refine Q_thenE ?_ | refine Q_thenR ?_)
  all_goals (try exact sd)
  all_goals (try refine F_done ?_)
  all_goals rfl
instance i_bursarlaw08_NodeDecodes (b0 : List UInt8) : Con Try.prog 6 [.sl (bytes b0)] (b0.length ≤ 140737488355328) (.bool true) := ⟨c_bursarlaw08_NodeDecodes b0 ⟩
theorem c_bursarlaw08_NodeEncodes (P0 : List PairB) (K0 : List (List UInt8)) (C0 : List Int) (s0 : List UInt8) (hC : ((P0.length ≤ 140737488355328 ∧ K0.length ≤ 140737488355328 ∧ C0.length ≤ 140737488355328) ∧ lenP P0 ∧ lenK K0) ∧ s0.length ≤ 9223372036854775807) : Pure Try.prog n_bursarlaw08_NodeEncodes [nodeD P0 K0 C0, .str s0] (.bool true) := by
 refine Pure.go tok (rs := [.tmp 4]) [nodeD P0 K0 C0, .str s0, .undef, .undef, .undef, .undef, .undef, .undef, .undef, .undef, .undef, .undef, .undef, .undef, .undef, .undef, .undef, .undef, .undef, .undef, .undef, .undef, .undef, .undef, .undef, .undef, .undef, .undef, .undef, .undef, .undef, .undef, .undef, .undef, .undef, .undef, .undef, .undef, .undef, .undef, .undef, .undef, .undef, .undef, .undef, .undef, .undef, .undef, .undef, .undef, .undef, .undef, .undef, .undef, .undef, .undef, .undef, .undef, .undef, .undef, .undef, .undef, .undef, .undef, .undef, .undef, .undef, .undef, .undef, .undef, .undef, .undef, .undef, .undef, .undef, .undef] Try.func5 (fun σ => ?_)
 obtain ⟨hC0, hC⟩ := hC
 have iF : Con Try.prog 21 [nodeD P0 K0 C0] True (nodeD ((P0.take 9).map tp) ((K0.take 12).map t100) (C0.take 12)) := ⟨fun _ => c_bursarlaw08_few P0 K0 C0 hC0⟩
 have n1 : ((P0.take 9).map tp).length < 1099511627776 := by simp; omega
 have n2 : ((K0.take 12).map t100).length < 1099511627776 := by simp; omega
 have n3 : (C0.take 12).length < 1099511627776 := by simp; omega
 generalize (P0.take 9).map tp = P at iF n1
 generalize (K0.take 12).map t100 = K at iF n2
 generalize C0.take 12 = C at iF n3
 have iT := i_text2 s0
 have hsl : (s0.take 100).length ≤ 100 := by simp; omega
 generalize s0.take 100 = s at iT hsl
 have iK1 := i_node_Key s
 have iK2 := i_bursarref08_Key s
 have iV1 := i_node_Val s
 have iV2 := i_bursarref08_Val s
 generalize decide (keyP s) = bk at iK1 iK2
 generalize decide (valP s) = bv at iV1 iV2
 have iE := i_node_Encode P K C
 have iM1 := i_node_May P K C
 have iM2 := i_bursarref08_May P K C
 have rk : ∀ a : Bool, decide (a = a) = true := fun a => decide_eq_true rfl
 cases hs : mayN P K C
 ·rw [hs, if_neg (by simp), if_neg (by simp)] at iE
  rw [hs] at iM1 iM2
  repeat' (first | (show Ev _ (.region _ _ true) _ _; first | refine D_start [23, 50, 51, 61, 62, 82, 85] mix ?_ | refine D_startA [23, 50, 51, 61, 62, 82, 85, 99998] mix ?_ | refine D_startA [23, 50, 51, 61, 62, 82, 85] mix ?_) | (show DrD _ _ _ [] _ _ _ _; refine D_nil ?_; try dsimp only) | (show DrD _ _ _ (⟨_, _, _, _, _, some _⟩ :: _) _ _ _ _; first | refine D_grdY ?_ | refine D_grdN ?_ | refine D_grdP (fun h => ?_) (fun h => ?_) | refine D_grdB (fun h => ?_) (fun h => ?_)) | (show DrD _ (EB _ _) _ (_ :: _) _ _ _ _; first | refine D_runL tok ?_ ?_ (h := by intro R; simp (maxSteps := 1000000) (disch := omega) only [go_sem, wrap_i64_id, rk]; with_reducible exact rfl)) | (show DrD _ EA _ (_ :: _) _ _ _ _; first | refine D_runLA tok ?_ ?_ (h := by intro R; simp (maxSteps := 1000000) (disch := omega) only [go_sem, wrap_i64_id, rk]; with_reducible exact rfl)) | (show DrD _ _ _ (_ :: _) _ _ _ _; first | refine D_con ?_ ?_ | refine D_off ?_ | refine D_own ?_ ?_ | refine D_app ?_ ?_ ?_ | refine D_store tok ?_ ?_ | refine D_eff tok ?_ ?_ | refine D_hold tok ?_ ?_ | refine D_hold tok ?_ ?_ (h := by simp (maxSteps := 1000000) (disch := omega) only [go_sem, wrap_i64_id, rk]; with_reducible exact rfl) | refine D_store tok ?_ ?_ (h := by simp (maxSteps := 1000000) (disch := omega) only [go_sem, wrap_i64_id, rk]; with_reducible exact rfl)) | (show Ev _ _ _ _; first | refine Ev_seq ?_ | refine W_reg ?_ | refine W_ifT ?_ | refine W_ifF ?_ | refine W_ifY ?_ | refine W_ifN ?_ | refine W_ifP (fun h => ?_) (fun h => ?_) | refine W_ifB (fun h => ?_) (fun h => ?_) | refine Ev_skip ?_ | refine Ev_exit ?_ | refine Ev_ret ?_) | (show EvD _ _ [] _ _ _; refine W_nil ?_) | (show EvD _ _ (⟨_, _, _, _, _, some _⟩ :: _) _ _ _; first | refine W_grdY ?_ | refine W_grdN ?_ | refine W_grdP (fun h => ?_) (fun h => ?_) | refine W_grdB (fun h => ?_) (fun h => ?_)) | (show EvD _ _ (_ :: _) _ _ _; first | refine W_run tok ?_ ?_ (by simp (maxSteps := 1000000) (disch := omega) only [go_sem, wrap_i64_id, rk]; with_reducible exact rfl) | refine W_callee ?_ | refine W_frz ?_) | (show EvC _ _ _ _ _ _ _ _ _; first | refine W_con ?_ ?_ | refine W_conOwn ?_ ?_ | refine W_conT ?_ ?_ | refine W_conApp ?_ ?_ ?_ | refine W_weak ?_ | refine W_frzArg ?_ | refine W_box ?_) | (show EvB _ _ _ _ _ _ _ _ _ _ _ _; refine W_conP ?_ ?_) | (show RetQ _ _ (RP _ _) _ _; refine R_ret ?_ ?_) | (show FrzTo _ _ _ _; first | refine F_row ?_ | refine F_weak ?_) | refine Q_thenN ?_ | refine Q_thenE ?_ | refine Q_thenR ?_)
  all_goals (try exact sd)
  all_goals (try refine F_done ?_)
  all_goals first | rfl | trace_state
 ·rw [hs, if_pos rfl, if_pos rfl] at iE
  rw [hs] at iM1 iM2
  have iD := i_node_Decode (pageN P K C)
  rw [dec_page hs] at iD
  have iR := i_bursarref08_Encode P K C
  have hpl := pageN_len (okN_of hs)
  have iS := i_bursarref08_Same P K C P K C
  simp only [decide_true, Bool.and_self] at iS
  generalize pageN P K C = S at iE iD iR hpl
  repeat' (first | (show Ev _ (.region _ _ true) _ _; first | refine D_start [23, 50, 51, 61, 62, 82, 85] mix ?_ | refine D_startA [23, 50, 51, 61, 62, 82, 85, 99998] mix ?_ | refine D_startA [23, 50, 51, 61, 62, 82, 85] mix ?_) | (show DrD _ _ _ [] _ _ _ _; refine D_nil ?_; try dsimp only) | (show DrD _ _ _ (⟨_, _, _, _, _, some _⟩ :: _) _ _ _ _; first | refine D_grdY ?_ | refine D_grdN ?_ | refine D_grdP (fun h => ?_) (fun h => ?_) | refine D_grdB (fun h => ?_) (fun h => ?_)) | (show DrD _ (EB _ _) _ (_ :: _) _ _ _ _; first | refine D_runL tok ?_ ?_ (h := by intro R; simp (maxSteps := 1000000) (disch := omega) only [go_sem, wrap_i64_id, rk, hpl]; with_reducible exact rfl)) | (show DrD _ EA _ (_ :: _) _ _ _ _; first | refine D_runLA tok ?_ ?_ (h := by intro R; simp (maxSteps := 1000000) (disch := omega) only [go_sem, wrap_i64_id, rk, hpl]; with_reducible exact rfl)) | (show DrD _ _ _ (_ :: _) _ _ _ _; first | refine D_con ?_ ?_ | refine D_off ?_ | refine D_own ?_ ?_ | refine D_app ?_ ?_ ?_ | refine D_store tok ?_ ?_ | refine D_eff tok ?_ ?_ | refine D_hold tok ?_ ?_ | refine D_hold tok ?_ ?_ (h := by simp (maxSteps := 1000000) (disch := omega) only [go_sem, wrap_i64_id, rk, hpl]; with_reducible exact rfl) | refine D_store tok ?_ ?_ (h := by simp (maxSteps := 1000000) (disch := omega) only [go_sem, wrap_i64_id, rk, hpl]; with_reducible exact rfl)) | (show Ev _ _ _ _; first | refine Ev_seq ?_ | refine W_reg ?_ | refine W_ifT ?_ | refine W_ifF ?_ | refine W_ifY ?_ | refine W_ifN ?_ | refine W_ifP (fun h => ?_) (fun h => ?_) | refine W_ifB (fun h => ?_) (fun h => ?_) | refine Ev_skip ?_ | refine Ev_exit ?_ | refine Ev_ret ?_) | (show EvD _ _ [] _ _ _; refine W_nil ?_) | (show EvD _ _ (⟨_, _, _, _, _, some _⟩ :: _) _ _ _; first | refine W_grdY ?_ | refine W_grdN ?_ | refine W_grdP (fun h => ?_) (fun h => ?_) | refine W_grdB (fun h => ?_) (fun h => ?_)) | (show EvD _ _ (_ :: _) _ _ _; first | refine W_run tok ?_ ?_ (by simp (maxSteps := 1000000) (disch := omega) only [go_sem, wrap_i64_id, rk, hpl]; with_reducible exact rfl) | refine W_callee ?_ | refine W_frz ?_) | (show EvC _ _ _ _ _ _ _ _ _; first | refine W_con ?_ ?_ | refine W_conOwn ?_ ?_ | refine W_conT ?_ ?_ | refine W_conApp ?_ ?_ ?_ | refine W_weak ?_ | refine W_frzArg ?_ | refine W_box ?_) | (show EvB _ _ _ _ _ _ _ _ _ _ _ _; refine W_conP ?_ ?_) | (show RetQ _ _ (RP _ _) _ _; refine R_ret ?_ ?_) | (show FrzTo _ _ _ _; first | refine F_row ?_ | refine F_weak ?_) | refine Q_thenN ?_ | refine Q_thenE ?_ | refine Q_thenR ?_)
  all_goals (try exact sd)
  all_goals (try refine F_done ?_)
  all_goals first | rfl | trace_state
instance i_bursarlaw08_NodeEncodes (P0 : List PairB) (K0 : List (List UInt8)) (C0 : List Int) (s0 : List UInt8) : Con Try.prog 5 [nodeD P0 K0 C0, .str s0] (((P0.length ≤ 140737488355328 ∧ K0.length ≤ 140737488355328 ∧ C0.length ≤ 140737488355328) ∧ lenP P0 ∧ lenK K0) ∧ s0.length ≤ 9223372036854775807) (.bool true) := ⟨c_bursarlaw08_NodeEncodes P0  K0  C0  s0 ⟩
theorem pageN_inj {P P' : List PairB} {K K' : List (List UInt8)} {C C' : List Int} (h : mayN P K C = true) (h' : mayN P' K' C' = true) : decide (pageN P K C = pageN P' K' C') = (decide (P = P') && decide (K = K') && decide (C = C')) := by
 rw [Bool.eq_iff_iff]
 simp only [decide_eq_true_eq, Bool.and_eq_true]
 constructor
 ·intro e
  have a := dec_page h
  have b := dec_page h'
  rw [e, b] at a
  injection a with a1 a2
  injection a2 with a2 a3
  injection a3 with a3 a4
  exact ⟨⟨a1.symm, a2.symm⟩, a3.symm⟩
 ·rintro ⟨⟨rfl, rfl⟩, rfl⟩; rfl
theorem c_bursarlaw08_NodeApart (P0 : List PairB) (K0 : List (List UInt8)) (C0 : List Int) (P1 : List PairB) (K1 : List (List UInt8)) (C1 : List Int) (hC : ((P0.length ≤ 140737488355328 ∧ K0.length ≤ 140737488355328 ∧ C0.length ≤ 140737488355328) ∧ lenP P0 ∧ lenK K0) ∧ (P1.length ≤ 140737488355328 ∧ K1.length ≤ 140737488355328 ∧ C1.length ≤ 140737488355328) ∧ lenP P1 ∧ lenK K1) : Pure Try.prog n_bursarlaw08_NodeApart [nodeD P0 K0 C0, nodeD P1 K1 C1] (.bool true) := by
 refine Pure.go tok (rs := [.tmp 4]) [nodeD P0 K0 C0, nodeD P1 K1 C1, .undef, .undef, .undef, .undef, .undef, .undef, .undef, .undef, .undef, .undef, .undef, .undef, .undef, .undef, .undef, .undef, .undef, .undef, .undef, .undef, .undef, .undef, .undef, .undef, .undef, .undef, .undef, .undef, .undef, .undef, .undef, .undef, .undef, .undef, .undef, .undef, .undef, .undef, .undef, .undef, .undef] Try.func7 (fun σ => ?_)
 obtain ⟨hC0, hC1⟩ := hC
 have iF : Con Try.prog 21 [nodeD P0 K0 C0] True (nodeD ((P0.take 9).map tp) ((K0.take 12).map t100) (C0.take 12)) := ⟨fun _ => c_bursarlaw08_few P0 K0 C0 hC0⟩
 have n1 : ((P0.take 9).map tp).length < 1099511627776 := by simp; omega
 have n2 : ((K0.take 12).map t100).length < 1099511627776 := by simp; omega
 have n3 : (C0.take 12).length < 1099511627776 := by simp; omega
 generalize (P0.take 9).map tp = P at iF n1
 generalize (K0.take 12).map t100 = K at iF n2
 generalize C0.take 12 = C at iF n3
 have iF1 : Con Try.prog 21 [nodeD P1 K1 C1] True (nodeD ((P1.take 9).map tp) ((K1.take 12).map t100) (C1.take 12)) := ⟨fun _ => c_bursarlaw08_few P1 K1 C1 hC1⟩
 have m1 : ((P1.take 9).map tp).length < 1099511627776 := by simp; omega
 have m2 : ((K1.take 12).map t100).length < 1099511627776 := by simp; omega
 have m3 : (C1.take 12).length < 1099511627776 := by simp; omega
 generalize (P1.take 9).map tp = P' at iF1 m1
 generalize (K1.take 12).map t100 = K' at iF1 m2
 generalize C1.take 12 = C' at iF1 m3
 have iE := i_node_Encode P K C
 have iE1 := i_node_Encode P' K' C'
 cases hs : mayN P K C
 ·rw [hs, if_neg (by simp), if_neg (by simp)] at iE
  cases hs1 : mayN P' K' C'
  ·rw [hs1, if_neg (by simp), if_neg (by simp)] at iE1
   repeat' (first | (show Ev _ (.region _ _ true) _ _; first | refine D_start [23, 50, 51, 61, 62, 82, 85] mix ?_ | refine D_startA [23, 50, 51, 61, 62, 82, 85, 99998] mix ?_ | refine D_startA [23, 50, 51, 61, 62, 82, 85] mix ?_) | (show DrD _ _ _ [] _ _ _ _; refine D_nil ?_; try dsimp only) | (show DrD _ _ _ (⟨_, _, _, _, _, some _⟩ :: _) _ _ _ _; first | refine D_grdY ?_ | refine D_grdN ?_ | refine D_grdP (fun h => ?_) (fun h => ?_) | refine D_grdB (fun h => ?_) (fun h => ?_)) | (show DrD _ (EB _ _) _ (_ :: _) _ _ _ _; first | refine D_runL tok ?_ ?_ (h := by intro R; simp (maxSteps := 1000000) (disch := omega) only [go_sem, wrap_i64_id]; with_reducible exact rfl)) | (show DrD _ EA _ (_ :: _) _ _ _ _; first | refine D_runLA tok ?_ ?_ (h := by intro R; simp (maxSteps := 1000000) (disch := omega) only [go_sem, wrap_i64_id]; with_reducible exact rfl)) | (show DrD _ _ _ (_ :: _) _ _ _ _; first | refine D_con ?_ ?_ | refine D_off ?_ | refine D_own ?_ ?_ | refine D_app ?_ ?_ ?_ | refine D_store tok ?_ ?_ | refine D_eff tok ?_ ?_ | refine D_hold tok ?_ ?_ | refine D_hold tok ?_ ?_ (h := by simp (maxSteps := 1000000) (disch := omega) only [go_sem, wrap_i64_id]; with_reducible exact rfl) | refine D_store tok ?_ ?_ (h := by simp (maxSteps := 1000000) (disch := omega) only [go_sem, wrap_i64_id]; with_reducible exact rfl)) | (show Ev _ _ _ _; first | refine Ev_seq ?_ | refine W_reg ?_ | refine Ev_skip ?_ | refine Ev_exit ?_ | refine Ev_ret ?_) | (show EvD _ _ [] _ _ _; refine W_nil ?_) | (show EvD _ _ (_ :: _) _ _ _; first | refine W_run tok ?_ ?_ (by simp (maxSteps := 1000000) (disch := omega) only [go_sem, wrap_i64_id]; with_reducible exact rfl) | refine W_callee ?_ | refine W_frz ?_) | (show EvC _ _ _ _ _ _ _ _ _; first | refine W_con ?_ ?_ | refine W_conOwn ?_ ?_ | refine W_conT ?_ ?_ | refine W_conApp ?_ ?_ ?_ | refine W_weak ?_ | refine W_frzArg ?_ | refine W_box ?_) | (show EvB _ _ _ _ _ _ _ _ _ _ _ _; refine W_conP ?_ ?_) | (show RetQ _ _ (RP _ _) _ _; refine R_ret ?_ ?_) | (show FrzTo _ _ _ _; first | refine F_row ?_ | refine F_weak ?_) | refine Q_thenN ?_ | refine Q_thenE ?_ | refine Q_thenR ?_)
   all_goals (try exact sd)
   all_goals (try refine F_done ?_)
   all_goals first | rfl | trace_state
  ·rw [hs1, if_pos rfl, if_pos rfl] at iE1
   repeat' (first | (show Ev _ (.region _ _ true) _ _; first | refine D_start [23, 50, 51, 61, 62, 82, 85] mix ?_ | refine D_startA [23, 50, 51, 61, 62, 82, 85, 99998] mix ?_ | refine D_startA [23, 50, 51, 61, 62, 82, 85] mix ?_) | (show DrD _ _ _ [] _ _ _ _; refine D_nil ?_; try dsimp only) | (show DrD _ _ _ (⟨_, _, _, _, _, some _⟩ :: _) _ _ _ _; first | refine D_grdY ?_ | refine D_grdN ?_ | refine D_grdP (fun h => ?_) (fun h => ?_) | refine D_grdB (fun h => ?_) (fun h => ?_)) | (show DrD _ (EB _ _) _ (_ :: _) _ _ _ _; first | refine D_runL tok ?_ ?_ (h := by intro R; simp (maxSteps := 1000000) (disch := omega) only [go_sem, wrap_i64_id]; with_reducible exact rfl)) | (show DrD _ EA _ (_ :: _) _ _ _ _; first | refine D_runLA tok ?_ ?_ (h := by intro R; simp (maxSteps := 1000000) (disch := omega) only [go_sem, wrap_i64_id]; with_reducible exact rfl)) | (show DrD _ _ _ (_ :: _) _ _ _ _; first | refine D_con ?_ ?_ | refine D_off ?_ | refine D_own ?_ ?_ | refine D_app ?_ ?_ ?_ | refine D_store tok ?_ ?_ | refine D_eff tok ?_ ?_ | refine D_hold tok ?_ ?_ | refine D_hold tok ?_ ?_ (h := by simp (maxSteps := 1000000) (disch := omega) only [go_sem, wrap_i64_id]; with_reducible exact rfl) | refine D_store tok ?_ ?_ (h := by simp (maxSteps := 1000000) (disch := omega) only [go_sem, wrap_i64_id]; with_reducible exact rfl)) | (show Ev _ _ _ _; first | refine Ev_seq ?_ | refine W_reg ?_ | refine Ev_skip ?_ | refine Ev_exit ?_ | refine Ev_ret ?_) | (show EvD _ _ [] _ _ _; refine W_nil ?_) | (show EvD _ _ (_ :: _) _ _ _; first | refine W_run tok ?_ ?_ (by simp (maxSteps := 1000000) (disch := omega) only [go_sem, wrap_i64_id]; with_reducible exact rfl) | refine W_callee ?_ | refine W_frz ?_) | (show EvC _ _ _ _ _ _ _ _ _; first | refine W_con ?_ ?_ | refine W_conOwn ?_ ?_ | refine W_conT ?_ ?_ | refine W_conApp ?_ ?_ ?_ | refine W_weak ?_ | refine W_frzArg ?_ | refine W_box ?_) | (show EvB _ _ _ _ _ _ _ _ _ _ _ _; refine W_conP ?_ ?_) | (show RetQ _ _ (RP _ _) _ _; refine R_ret ?_ ?_) | (show FrzTo _ _ _ _; first | refine F_row ?_ | refine F_weak ?_) | refine Q_thenN ?_ | refine Q_thenE ?_ | refine Q_thenR ?_)
   all_goals (try exact sd)
   all_goals (try refine F_done ?_)
   all_goals first | rfl | trace_state
 ·rw [hs, if_pos rfl, if_pos rfl] at iE
  cases hs1 : mayN P' K' C'
  ·rw [hs1, if_neg (by simp), if_neg (by simp)] at iE1
   repeat' (first | (show Ev _ (.region _ _ true) _ _; first | refine D_start [23, 50, 51, 61, 62, 82, 85] mix ?_ | refine D_startA [23, 50, 51, 61, 62, 82, 85, 99998] mix ?_ | refine D_startA [23, 50, 51, 61, 62, 82, 85] mix ?_) | (show DrD _ _ _ [] _ _ _ _; refine D_nil ?_; try dsimp only) | (show DrD _ _ _ (⟨_, _, _, _, _, some _⟩ :: _) _ _ _ _; first | refine D_grdY ?_ | refine D_grdN ?_ | refine D_grdP (fun h => ?_) (fun h => ?_) | refine D_grdB (fun h => ?_) (fun h => ?_)) | (show DrD _ (EB _ _) _ (_ :: _) _ _ _ _; first | refine D_runL tok ?_ ?_ (h := by intro R; simp (maxSteps := 1000000) (disch := omega) only [go_sem, wrap_i64_id]; with_reducible exact rfl)) | (show DrD _ EA _ (_ :: _) _ _ _ _; first | refine D_runLA tok ?_ ?_ (h := by intro R; simp (maxSteps := 1000000) (disch := omega) only [go_sem, wrap_i64_id]; with_reducible exact rfl)) | (show DrD _ _ _ (_ :: _) _ _ _ _; first | refine D_con ?_ ?_ | refine D_off ?_ | refine D_own ?_ ?_ | refine D_app ?_ ?_ ?_ | refine D_store tok ?_ ?_ | refine D_eff tok ?_ ?_ | refine D_hold tok ?_ ?_ | refine D_hold tok ?_ ?_ (h := by simp (maxSteps := 1000000) (disch := omega) only [go_sem, wrap_i64_id]; with_reducible exact rfl) | refine D_store tok ?_ ?_ (h := by simp (maxSteps := 1000000) (disch := omega) only [go_sem, wrap_i64_id]; with_reducible exact rfl)) | (show Ev _ _ _ _; first | refine Ev_seq ?_ | refine W_reg ?_ | refine Ev_skip ?_ | refine Ev_exit ?_ | refine Ev_ret ?_) | (show EvD _ _ [] _ _ _; refine W_nil ?_) | (show EvD _ _ (_ :: _) _ _ _; first | refine W_run tok ?_ ?_ (by simp (maxSteps := 1000000) (disch := omega) only [go_sem, wrap_i64_id]; with_reducible exact rfl) | refine W_callee ?_ | refine W_frz ?_) | (show EvC _ _ _ _ _ _ _ _ _; first | refine W_con ?_ ?_ | refine W_conOwn ?_ ?_ | refine W_conT ?_ ?_ | refine W_conApp ?_ ?_ ?_ | refine W_weak ?_ | refine W_frzArg ?_ | refine W_box ?_) | (show EvB _ _ _ _ _ _ _ _ _ _ _ _; refine W_conP ?_ ?_) | (show RetQ _ _ (RP _ _) _ _; refine R_ret ?_ ?_) | (show FrzTo _ _ _ _; first | refine F_row ?_ | refine F_weak ?_) | refine Q_thenN ?_ | refine Q_thenE ?_ | refine Q_thenR ?_)
   all_goals (try exact sd)
   all_goals (try refine F_done ?_)
   all_goals first | rfl | trace_state
  ·rw [hs1, if_pos rfl, if_pos rfl] at iE1
   have hinj := pageN_inj hs hs1
   have iS := i_bursarref08_Same P K C P' K' C'
   rw [← hinj] at iS
   generalize pageN P K C = S at iE iS
   generalize pageN P' K' C' = S' at iE1 iS
   have rk : ∀ a : Bool, decide (a = a) = true := fun a => decide_eq_true rfl
   repeat' (first | (show Ev _ (.region _ _ true) _ _; first | refine D_start [23, 50, 51, 61, 62, 82, 85] mix ?_ | refine D_startA [23, 50, 51, 61, 62, 82, 85, 99998] mix ?_ | refine D_startA [23, 50, 51, 61, 62, 82, 85] mix ?_) | (show DrD _ _ _ [] _ _ _ _; refine D_nil ?_; try dsimp only) | (show DrD _ _ _ (⟨_, _, _, _, _, some _⟩ :: _) _ _ _ _; first | refine D_grdY ?_ | refine D_grdN ?_ | refine D_grdP (fun h => ?_) (fun h => ?_) | refine D_grdB (fun h => ?_) (fun h => ?_)) | (show DrD _ (EB _ _) _ (_ :: _) _ _ _ _; first | refine D_runL tok ?_ ?_ (h := by intro R; simp (maxSteps := 1000000) (disch := omega) only [go_sem, wrap_i64_id, rk]; with_reducible exact rfl)) | (show DrD _ EA _ (_ :: _) _ _ _ _; first | refine D_runLA tok ?_ ?_ (h := by intro R; simp (maxSteps := 1000000) (disch := omega) only [go_sem, wrap_i64_id, rk]; with_reducible exact rfl)) | (show DrD _ _ _ (_ :: _) _ _ _ _; first | refine D_con ?_ ?_ | refine D_off ?_ | refine D_own ?_ ?_ | refine D_app ?_ ?_ ?_ | refine D_store tok ?_ ?_ | refine D_eff tok ?_ ?_ | refine D_hold tok ?_ ?_ | refine D_hold tok ?_ ?_ (h := by simp (maxSteps := 1000000) (disch := omega) only [go_sem, wrap_i64_id, rk]; with_reducible exact rfl) | refine D_store tok ?_ ?_ (h := by simp (maxSteps := 1000000) (disch := omega) only [go_sem, wrap_i64_id, rk]; with_reducible exact rfl)) | (show Ev _ _ _ _; first | refine Ev_seq ?_ | refine W_reg ?_ | refine Ev_skip ?_ | refine Ev_exit ?_ | refine Ev_ret ?_) | (show EvD _ _ [] _ _ _; refine W_nil ?_) | (show EvD _ _ (_ :: _) _ _ _; first | refine W_run tok ?_ ?_ (by simp (maxSteps := 1000000) (disch := omega) only [go_sem, wrap_i64_id, rk]; with_reducible exact rfl) | refine W_callee ?_ | refine W_frz ?_) | (show EvC _ _ _ _ _ _ _ _ _; first | refine W_con ?_ ?_ | refine W_conOwn ?_ ?_ | refine W_conT ?_ ?_ | refine W_conApp ?_ ?_ ?_ | refine W_weak ?_ | refine W_frzArg ?_ | refine W_box ?_) | (show EvB _ _ _ _ _ _ _ _ _ _ _ _; refine W_conP ?_ ?_) | (show RetQ _ _ (RP _ _) _ _; refine R_ret ?_ ?_) | (show FrzTo _ _ _ _; first | refine F_row ?_ | refine F_weak ?_) | refine Q_thenN ?_ | refine Q_thenE ?_ | refine Q_thenR ?_)
   all_goals (try exact sd)
   all_goals (try refine F_done ?_)
   all_goals first | rfl | trace_state
instance i_bursarlaw08_NodeApart (P0 : List PairB) (K0 : List (List UInt8)) (C0 : List Int) (P1 : List PairB) (K1 : List (List UInt8)) (C1 : List Int) : Con Try.prog 7 [nodeD P0 K0 C0, nodeD P1 K1 C1] (((P0.length ≤ 140737488355328 ∧ K0.length ≤ 140737488355328 ∧ C0.length ≤ 140737488355328) ∧ lenP P0 ∧ lenK K0) ∧ (P1.length ≤ 140737488355328 ∧ K1.length ≤ 140737488355328 ∧ C1.length ≤ 140737488355328) ∧ lenP P1 ∧ lenK K1) (.bool true) := ⟨c_bursarlaw08_NodeApart P0  K0  C0  P1  K1  C1 ⟩
end Go.Val.Ytgjmpefhjdgkoaa
