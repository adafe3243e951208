/- Chapter 07, which super counts, walked. -/
import Derived.Test.YtloeeiamgaljoaaC07e
import Derived.Test.YtloeeiamgaljoaaVGo6
namespace Go.Val.Ytloeeiamgaljoaa
open Go Go.Val Go.Proofs Go.Proofs.Ytloeeiamgaljoaa
attribute [local irreducible] Ev EvD EvC thenQ blockQ RoundG RetQ
set_option maxRecDepth 100000
set_option maxHeartbeats 4000000
set_option linter.unusedSimpArgs false
set_option linter.unusedVariables false





theorem sec10 (b : List UInt8) (h : b.length = 64) : IntKind.i64.wrap ((b.getD 10 0).toNat : Int) = (numN ((b.take 11).drop 10) : Int) := by
  have e : (b.take 11).drop 10 = [b.getD 10 0] := by
    rw [List.drop_take, List.drop_eq_getElem_cons (by omega), List.getD_eq_getElem?_getD, List.getElem?_eq_getElem (by omega)]
    rfl
  rw [e, wrap_i64_id (by omega) (by have := (b.getD 10 0).toNat_lt; omega)]
  simp [numN]
theorem c_bursarref07_Decode (b : List UInt8) (hC : b.length < 1099511627776) : Pure Try.prog n_bursarref07_Decode [.str b] (.tup [decS b, .int .i64 (decE b)]) := by
  refine Pure.go tok (rs := [.cell 2 52, .tmp 3]) [.str b, .undef, .undef, .undef, .undef, .undef, .undef, .undef, .undef, .undef, .undef, .undef, .undef, .undef, .undef, .undef, .undef, .undef, .undef, .undef, .undef, .undef, .undef, .undef, .undef, .undef, .undef, .undef, .undef, .undef, .undef, .undef, .undef, .undef, .undef, .undef, .undef, .undef, .undef, .undef, .undef, .undef, .undef] Try.func31 (fun σ => ?_)
  by_cases h64 : b.length = 64
  · have hx := sec10 b h64
    rcases open_cases b h64 with ho | ho
    · have he : decE b = 6 := by simp [decE, h64, ho]
      repeat' (first | (show Ev _ (.region _ _ true) _ _; first | refine D_start [18, 40, 45] mix ?_ | refine D_startA [18, 40, 45] mix ?_) | (show DrD _ _ _ [] _ _ _ _; refine D_nil ?_; try dsimp only) | (show DrD _ _ _ (_ :: _) _ _ _ _; first | refine D_run tok ?_ ?_ (by intro R; simp (maxSteps := 1000000) (disch := omega) only [go_sem, wrap_i64_id, ho]; with_reducible exact rfl) | refine D_runA tok ?_ ?_ (by intro R; simp (maxSteps := 1000000) (disch := omega) only [go_sem, wrap_i64_id, ho]; with_reducible exact rfl) | refine D_con ?_ ?_ | refine D_own ?_ ?_ | refine D_app ?_ ?_ ?_ | refine D_store tok ?_ ?_ | refine D_eff tok ?_ ?_) | (show Ev _ _ _ _; first | refine Ev_seq ?_ | refine W_reg ?_ | refine Ev_block ?_ | refine W_ifT ?_ | refine W_ifF ?_ | refine W_ifY ?_ | refine W_ifN ?_ | refine W_ifP (fun h => ?_) (fun h => ?_) | refine W_ifB (fun h => ?_) (fun h => ?_) | refine Ev_skip ?_ | refine Ev_exit ?_ | refine Ev_ret ?_) | (show EvD _ _ [] _ _ _; refine W_nil ?_) | (show EvD _ _ (⟨_, _, _, _, _, some _⟩ :: _) _ _ _; first | refine W_grdY ?_ | refine W_grdN ?_ | refine W_grdP (fun h => ?_) (fun h => ?_) | refine W_grdB (fun h => ?_) (fun h => ?_)) | (show EvD _ _ (⟨some _, .buildSlice _ _ _, _, _, _, none⟩ :: ⟨some _, .convert _ _ (.tmp _), _, _, _, none⟩ :: _) _ _ _; refine W_lit tok ?_ ?_) | (show EvD _ _ (_ :: _) _ _ _; first | refine W_run tok ?_ ?_ (by simp (maxSteps := 1000000) (disch := omega) only [go_sem, wrap_i64_id, ho]; with_reducible exact rfl) | refine W_callee ?_ | refine W_frz ?_ | refine W_isnil tok (fun qn hqn => ?_)) | (show EvC _ _ _ _ _ _ _ _ _; first | refine W_con ?_ ?_ | refine W_conOwn ?_ ?_ | refine W_conApp ?_ ?_ ?_ | refine W_weak ?_ | refine W_frzArg ?_) | (show RetQ _ _ _ _ _; first | refine R_ret ?_ ?_ | refine R_own ?_ ?_) | (show FrzTo _ _ _ _; first | refine F_row ?_ | refine F_weak ?_) | refine Q_thenN ?_ | refine Q_thenE ?_ | refine Q_thenR ?_ | refine Q_blkN ?_ | refine Q_blkE ?_ | (show blockQ _ _ _ _; refine Q_blkX ?_) | refine Q_blkR ?_ | refine Q_rndE ?_ | refine Q_rndR ?_)
      all_goals (try first | exact trivial | omega | (simp only [List.length_take, List.length_drop, List.length_append, List.length_replicate, List.length_cons, List.length_nil, bytes_len, beN_len, Int.reduceToNat, true_and, and_true]; omega))
      all_goals (try refine F_done ?_)
      simp [decS, decV, he]
    · repeat' (first | (show Ev _ (.region _ _ true) _ _; first | refine D_start [18, 40, 45] mix ?_ | refine D_startA [18, 40, 45] mix ?_) | (show DrD _ _ _ [] _ _ _ _; refine D_nil ?_; try dsimp only) | (show DrD _ _ _ (_ :: _) _ _ _ _; first | refine D_run tok ?_ ?_ (by intro R; simp (maxSteps := 1000000) (disch := omega) only [go_sem, wrap_i64_id, ho, hx]; with_reducible exact rfl) | refine D_runA tok ?_ ?_ (by intro R; simp (maxSteps := 1000000) (disch := omega) only [go_sem, wrap_i64_id, ho, hx]; with_reducible exact rfl) | refine D_con ?_ ?_ | refine D_own ?_ ?_ | refine D_app ?_ ?_ ?_ | refine D_store tok ?_ ?_ | refine D_eff tok ?_ ?_) | (show Ev _ _ _ _; first | refine Ev_seq ?_ | refine W_reg ?_ | refine Ev_block ?_ | refine W_ifT ?_ | refine W_ifF ?_ | refine W_ifY ?_ | refine W_ifN ?_ | refine W_ifP (fun h => ?_) (fun h => ?_) | refine W_ifB (fun h => ?_) (fun h => ?_) | refine Ev_skip ?_ | refine Ev_exit ?_ | refine Ev_ret ?_) | (show EvD _ _ [] _ _ _; refine W_nil ?_) | (show EvD _ _ (⟨_, _, _, _, _, some _⟩ :: _) _ _ _; first | refine W_grdY ?_ | refine W_grdN ?_ | refine W_grdP (fun h => ?_) (fun h => ?_) | refine W_grdB (fun h => ?_) (fun h => ?_)) | (show EvD _ _ (⟨some _, .buildSlice _ _ _, _, _, _, none⟩ :: ⟨some _, .convert _ _ (.tmp _), _, _, _, none⟩ :: _) _ _ _; refine W_lit tok ?_ ?_) | (show EvD _ _ (_ :: _) _ _ _; first | refine W_run tok ?_ ?_ (by simp (maxSteps := 1000000) (disch := omega) only [go_sem, wrap_i64_id, ho, hx]; with_reducible exact rfl) | refine W_callee ?_ | refine W_frz ?_ | refine W_isnil tok (fun qn hqn => ?_)) | (show EvC _ _ _ _ _ _ _ _ _; first | refine W_con ?_ ?_ | refine W_conOwn ?_ ?_ | refine W_conApp ?_ ?_ ?_ | refine W_weak ?_ | refine W_frzArg ?_) | (show RetQ _ _ _ _ _; first | refine R_ret ?_ ?_ | refine R_own ?_ ?_) | (show FrzTo _ _ _ _; first | refine F_row ?_ | refine F_weak ?_) | refine Q_thenN ?_ | refine Q_thenE ?_ | refine Q_thenR ?_ | refine Q_blkN ?_ | refine Q_blkE ?_ | (show blockQ _ _ _ _; refine Q_blkX ?_) | refine Q_blkR ?_ | refine Q_rndE ?_ | refine Q_rndR ?_)
      all_goals (try first | exact trivial | omega | (simp only [List.length_take, List.length_drop, List.length_append, List.length_replicate, List.length_cons, List.length_nil, bytes_len, beN_len, Int.reduceToNat, true_and, and_true]; omega))
      all_goals (try refine F_done ?_)
      · have he : decE b = 4 := by simp [decE, secG, secV, h64, ho, h]
        simp [decS, decV, he]
      · rename_i hm
        have he : decE b = 4 := by simp [decE, secG, secV, h64, ho, h]
        simp [decS, decV, he]
      · rename_i hm
        have he : decE b = 0 := by simp only [decE, secG, secV]; simp [h64, ho, Classical.not_not.1 hm, Classical.not_not.1 h]
        simp [decS, decV, he, secV]
  · have he : decE b = 3 := by simp [decE, h64]
    repeat' (first | (show Ev _ (.region _ _ true) _ _; first | refine D_start [18, 40, 45] mix ?_ | refine D_startA [18, 40, 45] mix ?_) | (show DrD _ _ _ [] _ _ _ _; refine D_nil ?_; try dsimp only) | (show DrD _ _ _ (_ :: _) _ _ _ _; first | refine D_run tok ?_ ?_ (by intro R; simp (maxSteps := 1000000) (disch := omega) only [go_sem, wrap_i64_id]; with_reducible exact rfl) | refine D_runA tok ?_ ?_ (by intro R; simp (maxSteps := 1000000) (disch := omega) only [go_sem, wrap_i64_id]; with_reducible exact rfl) | refine D_con ?_ ?_ | refine D_own ?_ ?_ | refine D_app ?_ ?_ ?_ | refine D_store tok ?_ ?_ | refine D_eff tok ?_ ?_) | (show Ev _ _ _ _; first | refine Ev_seq ?_ | refine W_reg ?_ | refine Ev_block ?_ | refine W_ifT ?_ | refine W_ifF ?_ | refine W_ifY ?_ | refine W_ifN ?_ | refine W_ifP (fun h => ?_) (fun h => ?_) | refine W_ifB (fun h => ?_) (fun h => ?_) | refine Ev_skip ?_ | refine Ev_exit ?_ | refine Ev_ret ?_) | (show EvD _ _ [] _ _ _; refine W_nil ?_) | (show EvD _ _ (⟨_, _, _, _, _, some _⟩ :: _) _ _ _; first | refine W_grdY ?_ | refine W_grdN ?_ | refine W_grdP (fun h => ?_) (fun h => ?_) | refine W_grdB (fun h => ?_) (fun h => ?_)) | (show EvD _ _ (⟨some _, .buildSlice _ _ _, _, _, _, none⟩ :: ⟨some _, .convert _ _ (.tmp _), _, _, _, none⟩ :: _) _ _ _; refine W_lit tok ?_ ?_) | (show EvD _ _ (_ :: _) _ _ _; first | refine W_run tok ?_ ?_ (by simp (maxSteps := 1000000) (disch := omega) only [go_sem, wrap_i64_id]; with_reducible exact rfl) | refine W_callee ?_ | refine W_frz ?_ | refine W_isnil tok (fun qn hqn => ?_)) | (show EvC _ _ _ _ _ _ _ _ _; first | refine W_con ?_ ?_ | refine W_conOwn ?_ ?_ | refine W_conApp ?_ ?_ ?_ | refine W_weak ?_ | refine W_frzArg ?_) | (show RetQ _ _ _ _ _; first | refine R_ret ?_ ?_ | refine R_own ?_ ?_) | (show FrzTo _ _ _ _; first | refine F_row ?_ | refine F_weak ?_) | refine Q_thenN ?_ | refine Q_thenE ?_ | refine Q_thenR ?_ | refine Q_blkN ?_ | refine Q_blkE ?_ | (show blockQ _ _ _ _; refine Q_blkX ?_) | refine Q_blkR ?_ | refine Q_rndE ?_ | refine Q_rndR ?_)
    all_goals (try first | exact trivial | omega | (simp only [List.length_take, List.length_drop, List.length_append, List.length_replicate, List.length_cons, List.length_nil, bytes_len, beN_len, Int.reduceToNat, true_and, and_true]; omega))
    all_goals (try refine F_done ?_)
    simp [decS, decV, he]
instance i_bursarref07_Decode (b : List UInt8) : Con Try.prog 31 [.str b] (b.length < 1099511627776) (.tup [decS b, .int .i64 (decE b)]) := ⟨c_bursarref07_Decode b ⟩
def s1 (a : List UInt8) : Option (List UInt8) := if decE a = 0 ∧ decV a 4 10 % 2 = 0 then some a else none
def selV (o : Option (List UInt8)) (i j : Nat) : Int := match o with | some x => decV x i j | none => 0
def s2 (a b : List UInt8) : Option (List UInt8) := if decE b = 0 ∧ decV b 4 10 % 2 = 1 ∧ selV (s1 a) 4 10 < decV b 4 10 then some b else s1 a
def selC (o : Option (List UInt8)) : List DV := [.int .i64 (selV o 4 10), .int .i64 (selV o 10 11), .int .i64 (selV o 11 17), .int .i64 (selV o 17 19)]
theorem decV_nn (b : List UInt8) (i j : Nat) : 0 ≤ decV b i j := by unfold decV; split <;> omega
theorem dec_gen (b : List UInt8) (h : decE b = 0) : 1 ≤ decV b 4 10 := by
  have hg : secG b := by
    unfold decE at h
    split at h
    · cases h
    · split at h
      · cases h
      · split at h
        · assumption
        · cases h
  have := hg.1
  simp only [decV, h, if_true]
  omega
theorem tmod2 {x : Int} (h : 0 ≤ x) : Int.tmod x 2 = x % 2 := Int.tmod_eq_emod_of_nonneg h
def sN (a b : List UInt8) : Nat → Option (List UInt8) := fun i => if i = 0 then none else if i = 1 then s1 a else s2 a b
theorem s2_gen (a b : List UInt8) : s2 a b = none ∨ ∃ x, s2 a b = some x ∧ 1 ≤ decV x 4 10 := by
  unfold s2
  split
  · rename_i h; exact .inr ⟨b, rfl, dec_gen b h.1⟩
  · unfold s1
    split
    · rename_i h; exact .inr ⟨a, rfl, dec_gen a h.1⟩
    · exact .inl rfl
theorem c_super_Choose (a b : List UInt8) (hC : a.length < 1099511627776 ∧ b.length < 1099511627776) : Pure Try.prog n_super_Choose [.sl (bytes a), .sl (bytes b)] (.tup [.agg (selC (s2 a b)), .int .i64 (if (s2 a b).isSome then 0 else 7)]) := by
  refine Pure.go tok (rs := [.cell 4 52, .tmp 5]) [.sl (bytes a), .sl (bytes b), .undef, .undef, .undef, .undef, .undef, .undef, .undef, .undef, .undef, .undef, .undef, .undef, .undef, .undef, .undef, .undef, .undef, .undef, .undef, .undef, .undef, .undef, .undef, .undef, .undef, .undef, .undef, .undef, .undef, .undef, .undef, .undef, .undef, .undef, .undef, .undef, .undef, .undef, .undef, .undef, .undef, .undef, .undef, .undef, .undef] Try.func36 (fun σ => ?_)
  have na := decV_nn a 4 10
  have nb := decV_nn b 4 10
  have ga := dec_gen a
  have gb := dec_gen b
  repeat' (first | (show Ev _ (.region _ _ true) _ _; first | refine D_start [18, 40, 45] mix ?_ | refine D_startA [18, 40, 45] mix ?_) | (show DrD _ _ _ [] _ _ _ _; refine D_nil ?_; try dsimp only) | (show DrD _ _ _ (_ :: _) _ _ _ _; first | refine D_run tok ?_ ?_ | refine D_runA tok ?_ ?_ | refine D_con ?_ ?_ | refine D_own ?_ ?_ | refine D_app ?_ ?_ ?_ | refine D_store tok ?_ ?_ | refine D_eff tok ?_ ?_) | (show Ev _ _ _ _; first | refine Ev_seq ?_ | refine W_reg ?_ | refine Ev_block ?_ | refine W_ifT ?_ | refine W_ifF ?_ | refine W_ifY ?_ | refine W_ifN ?_ | refine W_ifP (fun h => ?_) (fun h => ?_) | refine W_ifB (fun h => ?_) (fun h => ?_) | refine Ev_skip ?_ | refine Ev_exit ?_ | refine Ev_ret ?_) | (show EvD _ _ [] _ _ _; refine W_nil ?_) | (show EvD _ _ (⟨_, _, _, _, _, some _⟩ :: _) _ _ _; first | refine W_grdY ?_ | refine W_grdN ?_ | refine W_grdP (fun h => ?_) (fun h => ?_) | refine W_grdB (fun h => ?_) (fun h => ?_)) | (show EvD _ _ (⟨some _, .buildSlice _ _ _, _, _, _, none⟩ :: ⟨some _, .convert _ _ (.tmp _), _, _, _, none⟩ :: _) _ _ _; refine W_lit tok ?_ ?_) | (show EvD _ _ (_ :: _) _ _ _; first | refine W_run tok ?_ ?_ | refine W_callee ?_ | refine W_frz ?_ | refine W_isnil tok (fun qn hqn => ?_)) | (show EvC _ _ _ _ _ _ _ _ _; first | refine W_con ?_ ?_ | refine W_conOwn ?_ ?_ | refine W_conApp ?_ ?_ ?_ | refine W_weak ?_ | refine W_frzArg ?_) | (show RetQ _ _ _ _ _; first | refine R_ret ?_ ?_ | refine R_own ?_ ?_) | (show FrzTo _ _ _ _; first | refine F_row ?_ | refine F_weak ?_) | refine Q_thenN ?_ | refine Q_thenE ?_ | refine Q_thenR ?_ | refine Q_blkN ?_ | refine Q_blkE ?_ | (show blockQ _ _ _ _; refine Q_blkX ?_) | refine Q_blkR ?_ | refine Q_rndE ?_ | refine Q_rndR ?_)
  all_goals (try first | exact trivial | omega | (simp only [List.length_take, List.length_drop, List.length_append, List.length_replicate, List.length_cons, List.length_nil, bytes_len, beN_len, Int.reduceToNat, true_and, and_true]; omega))
  all_goals (try refine F_done ?_)
  refine Ev_lp (2) (fun i => [(15, i64 i)]) (fun i => ⟨σ.rows, σ.boxes ++ [some ⟨52, [.int .i64 0, .int .i64 0, .int .i64 0, .int .i64 0]⟩, some ⟨52, selC (sN a b i)⟩], σ.maps⟩) [7, 8, 9, 10, 16, 17, 18, 19, 20, 21, 22, 23, 24, 25, 26, 27, 28, 29, 30, 31, 32, 33, 34, 35, 36, 37, 38, 39, 40, 41] ?_ (by first | rfl | (simp only [List.take_zero, List.append_nil]; done)) (fun i hi => ?_)
  · repeat (first | exact LeL.nil | refine LeL.cons2 ?_ (Le.undef _) | refine LeL.cons2 ?_ (Le.refl _) | refine LeL.cons2 ?_ (Le.sl _) | refine LeL.cons2 ?_ (Le.eq ?_))
    all_goals (first | (simp; done) | (simp; omega) | skip)
  have z0 : selC (sN a b 0) = [.int .i64 0, .int .i64 0, .int .i64 0, .int .i64 0] := rfl
  rcases (by omega : i = 0 ∨ i = 1 ∨ i = 2) with rfl | rfl | rfl
  · repeat' (first | (show Ev _ (.region _ _ true) _ _; first | refine D_start [18, 40, 45] mix ?_ | refine D_startA [18, 40, 45] mix ?_) | (show DrD _ _ _ [] _ _ _ _; refine D_nil ?_; try dsimp only) | (show DrD _ _ _ (_ :: _) _ _ _ _; first | refine D_run tok ?_ ?_ (by intro R; simp (maxSteps := 1000000) (disch := omega) only [go_sem, tmod2, wrap_i64_id, z0]; with_reducible exact rfl) | refine D_runA tok ?_ ?_ (by intro R; simp (maxSteps := 1000000) (disch := omega) only [go_sem, tmod2, wrap_i64_id, z0]; with_reducible exact rfl) | refine D_con ?_ ?_ | refine D_own ?_ ?_ | refine D_app ?_ ?_ ?_ | refine D_store tok ?_ ?_ | refine D_eff tok ?_ ?_) | (show Ev _ _ _ _; first | refine Ev_seq ?_ | refine W_reg ?_ | refine Ev_block ?_ | refine W_ifT ?_ | refine W_ifF ?_ | refine W_ifY ?_ | refine W_ifN ?_ | refine W_ifP (fun h => ?_) (fun h => ?_) | refine W_ifB (fun h => ?_) (fun h => ?_) | refine Ev_skip ?_ | refine Ev_exit ?_ | refine Ev_ret ?_) | (show EvD _ _ [] _ _ _; refine W_nil ?_) | (show EvD _ _ (⟨_, _, _, _, _, some _⟩ :: _) _ _ _; first | refine W_grdY ?_ | refine W_grdN ?_ | refine W_grdP (fun h => ?_) (fun h => ?_) | refine W_grdB (fun h => ?_) (fun h => ?_)) | (show EvD _ _ (⟨some _, .buildSlice _ _ _, _, _, _, none⟩ :: ⟨some _, .convert _ _ (.tmp _), _, _, _, none⟩ :: _) _ _ _; refine W_lit tok ?_ ?_) | (show EvD _ _ (_ :: _) _ _ _; first | refine W_run tok ?_ ?_ (by simp (maxSteps := 1000000) (disch := omega) only [go_sem, tmod2, wrap_i64_id, z0]; with_reducible exact rfl) | refine W_callee ?_ | refine W_frz ?_ | refine W_isnil tok (fun qn hqn => ?_)) | (show EvC _ _ _ _ _ _ _ _ _; first | refine W_con ?_ ?_ | refine W_conOwn ?_ ?_ | refine W_conApp ?_ ?_ ?_ | refine W_weak ?_ | refine W_frzArg ?_) | (show RetQ _ _ _ _ _; first | refine R_ret ?_ ?_ | refine R_own ?_ ?_) | (show FrzTo _ _ _ _; first | refine F_row ?_ | refine F_weak ?_) | refine Q_thenN ?_ | refine Q_thenE ?_ | refine Q_thenR ?_ | refine Q_blkN ?_ | refine Q_blkE ?_ | (show blockQ _ _ _ _; refine Q_blkX ?_) | refine Q_blkR ?_ | refine Q_rndE ?_ | refine Q_rndR ?_)
    all_goals (try first | exact trivial | omega | (simp only [List.length_take, List.length_drop, List.length_append, List.length_replicate, List.length_cons, List.length_nil, bytes_len, beN_len, Int.reduceToNat, true_and, and_true]; omega))
    all_goals (try refine F_done ?_)
    · rename_i he
      have hs : sN a b 1 = some a := by simp only [sN, s1]; simp [he, h]
      refine Q_rndB (A := σ.boxes) (B' := [some ⟨52, [.int .i64 0, .int .i64 0, .int .i64 0, .int .i64 0]⟩, some ⟨52, selC (sN a b 1)⟩]) (rg := []) (mg := []) ?_ (by omega) rfl (by first | rfl | simp only [Nat.reduceAdd]) (by simp only [List.append_nil, List.cons_append, List.nil_append, List.append_assoc, hs, selC, selV]; exact rfl) (by simp) (by simp [nameds, DV.named, bytes_named]) (by simp [nameds, DV.named, bytes_named, hs, selC, selV])
      repeat (first | exact LeL.nil | refine LeL.cons2 ?_ (Le.undef _) | refine LeL.cons2 ?_ (Le.refl _) | refine LeL.cons2 ?_ (Le.sl _) | refine LeL.cons2 ?_ (Le.eq (by first | rfl | exact congrArg _ (by omega))) | refine LeL.cons2 ?_ (Le.eq ?_))
    · rename_i he
      have hs : sN a b 1 = none := by simp only [sN, s1]; simp [he, h]
      refine Q_rndB (A := σ.boxes) (B' := [some ⟨52, [.int .i64 0, .int .i64 0, .int .i64 0, .int .i64 0]⟩, some ⟨52, selC (sN a b 1)⟩]) (rg := []) (mg := []) ?_ (by omega) rfl (by first | rfl | simp only [Nat.reduceAdd]) (by simp only [List.append_nil, List.cons_append, List.nil_append, List.append_assoc, hs, selC, selV]; exact rfl) (by simp) (by simp [nameds, DV.named, bytes_named]) (by simp [nameds, DV.named, bytes_named, hs, selC, selV])
      repeat (first | exact LeL.nil | refine LeL.cons2 ?_ (Le.undef _) | refine LeL.cons2 ?_ (Le.refl _) | refine LeL.cons2 ?_ (Le.sl _) | refine LeL.cons2 ?_ (Le.eq (by first | rfl | exact congrArg _ (by omega))) | refine LeL.cons2 ?_ (Le.eq ?_))
    · have hs : sN a b 1 = none := by simp only [sN, s1]; simp [h]
      refine Q_rndB (A := σ.boxes) (B' := [some ⟨52, [.int .i64 0, .int .i64 0, .int .i64 0, .int .i64 0]⟩, some ⟨52, selC (sN a b 1)⟩]) (rg := []) (mg := []) ?_ (by omega) rfl (by first | rfl | simp only [Nat.reduceAdd]) (by simp only [List.append_nil, List.cons_append, List.nil_append, List.append_assoc, hs, selC, selV]; exact rfl) (by simp) (by simp [nameds, DV.named, bytes_named]) (by simp [nameds, DV.named, bytes_named, hs, selC, selV])
      repeat (first | exact LeL.nil | refine LeL.cons2 ?_ (Le.undef _) | refine LeL.cons2 ?_ (Le.refl _) | refine LeL.cons2 ?_ (Le.sl _) | refine LeL.cons2 ?_ (Le.eq (by first | rfl | exact congrArg _ (by omega))) | refine LeL.cons2 ?_ (Le.eq ?_))
  · repeat' (first | (show Ev _ (.region _ _ true) _ _; first | refine D_start [18, 40, 45] mix ?_ | refine D_startA [18, 40, 45] mix ?_) | (show DrD _ _ _ [] _ _ _ _; refine D_nil ?_; try dsimp only) | (show DrD _ _ _ (_ :: _) _ _ _ _; first | refine D_run tok ?_ ?_ (by intro R; simp (maxSteps := 1000000) (disch := omega) only [go_sem, tmod2, wrap_i64_id, selC]; with_reducible exact rfl) | refine D_runA tok ?_ ?_ (by intro R; simp (maxSteps := 1000000) (disch := omega) only [go_sem, tmod2, wrap_i64_id, selC]; with_reducible exact rfl) | refine D_con ?_ ?_ | refine D_own ?_ ?_ | refine D_app ?_ ?_ ?_ | refine D_store tok ?_ ?_ | refine D_eff tok ?_ ?_) | (show Ev _ _ _ _; first | refine Ev_seq ?_ | refine W_reg ?_ | refine Ev_block ?_ | refine W_ifT ?_ | refine W_ifF ?_ | refine W_ifY ?_ | refine W_ifN ?_ | refine W_ifP (fun h => ?_) (fun h => ?_) | refine W_ifB (fun h => ?_) (fun h => ?_) | refine Ev_skip ?_ | refine Ev_exit ?_ | refine Ev_ret ?_) | (show EvD _ _ [] _ _ _; refine W_nil ?_) | (show EvD _ _ (⟨_, _, _, _, _, some _⟩ :: _) _ _ _; first | refine W_grdY ?_ | refine W_grdN ?_ | refine W_grdP (fun h => ?_) (fun h => ?_) | refine W_grdB (fun h => ?_) (fun h => ?_)) | (show EvD _ _ (⟨some _, .buildSlice _ _ _, _, _, _, none⟩ :: ⟨some _, .convert _ _ (.tmp _), _, _, _, none⟩ :: _) _ _ _; refine W_lit tok ?_ ?_) | (show EvD _ _ (_ :: _) _ _ _; first | refine W_run tok ?_ ?_ (by simp (maxSteps := 1000000) (disch := omega) only [go_sem, tmod2, wrap_i64_id, selC]; with_reducible exact rfl) | refine W_callee ?_ | refine W_frz ?_ | refine W_isnil tok (fun qn hqn => ?_)) | (show EvC _ _ _ _ _ _ _ _ _; first | refine W_con ?_ ?_ | refine W_conOwn ?_ ?_ | refine W_conApp ?_ ?_ ?_ | refine W_weak ?_ | refine W_frzArg ?_) | (show RetQ _ _ _ _ _; first | refine R_ret ?_ ?_ | refine R_own ?_ ?_) | (show FrzTo _ _ _ _; first | refine F_row ?_ | refine F_weak ?_) | refine Q_thenN ?_ | refine Q_thenE ?_ | refine Q_thenR ?_ | refine Q_blkN ?_ | refine Q_blkE ?_ | (show blockQ _ _ _ _; refine Q_blkX ?_) | refine Q_blkR ?_ | refine Q_rndE ?_ | refine Q_rndR ?_)
    all_goals (try first | exact trivial | omega | (simp only [List.length_take, List.length_drop, List.length_append, List.length_replicate, List.length_cons, List.length_nil, bytes_len, beN_len, Int.reduceToNat, true_and, and_true]; omega))
    all_goals (try refine F_done ?_)
    · rename_i he hp
      have h' : selV (s1 a) 4 10 < decV b 4 10 := h
      have hs : sN a b 2 = some b := by simp only [sN, s2]; simp [he, hp, h']
      refine Q_rndB (A := σ.boxes) (B' := [some ⟨52, [.int .i64 0, .int .i64 0, .int .i64 0, .int .i64 0]⟩, some ⟨52, selC (sN a b 2)⟩]) (rg := []) (mg := []) ?_ (by omega) rfl (by first | rfl | simp only [Nat.reduceAdd]) (by simp only [List.append_nil, List.cons_append, List.nil_append, List.append_assoc, hs, selC, selV]; exact rfl) (by simp) (by simp [nameds, DV.named, bytes_named]) (by simp [nameds, DV.named, bytes_named, hs, selC, selV])
      repeat (first | exact LeL.nil | refine LeL.cons2 ?_ (Le.undef _) | refine LeL.cons2 ?_ (Le.refl _) | refine LeL.cons2 ?_ (Le.sl _) | refine LeL.cons2 ?_ (Le.eq (by first | rfl | exact congrArg _ (by omega))) | refine LeL.cons2 ?_ (Le.eq ?_))
    · rename_i he hp
      have h' : ¬ selV (s1 a) 4 10 < decV b 4 10 := h
      have hs : sN a b 2 = sN a b 1 := by simp only [sN, s2]; simp [h']
      refine Q_rndB (A := σ.boxes) (B' := [some ⟨52, [.int .i64 0, .int .i64 0, .int .i64 0, .int .i64 0]⟩, some ⟨52, selC (sN a b 2)⟩]) (rg := []) (mg := []) ?_ (by omega) rfl (by first | rfl | simp only [Nat.reduceAdd]) (by simp only [List.append_nil, List.cons_append, List.nil_append, List.append_assoc, hs, selC]; exact rfl) (by simp) (by simp [nameds, DV.named, bytes_named]) (by simp [nameds, DV.named, bytes_named, hs, selC])
      repeat (first | exact LeL.nil | refine LeL.cons2 ?_ (Le.undef _) | refine LeL.cons2 ?_ (Le.refl _) | refine LeL.cons2 ?_ (Le.sl _) | refine LeL.cons2 ?_ (Le.eq (by first | rfl | exact congrArg _ (by omega))) | refine LeL.cons2 ?_ (Le.eq ?_))
    · have hs : sN a b 2 = sN a b 1 := by simp only [sN, s2]; simp [h]
      refine Q_rndB (A := σ.boxes) (B' := [some ⟨52, [.int .i64 0, .int .i64 0, .int .i64 0, .int .i64 0]⟩, some ⟨52, selC (sN a b 2)⟩]) (rg := []) (mg := []) ?_ (by omega) rfl (by first | rfl | simp only [Nat.reduceAdd]) (by simp only [List.append_nil, List.cons_append, List.nil_append, List.append_assoc, hs, selC]; exact rfl) (by simp) (by simp [nameds, DV.named, bytes_named]) (by simp [nameds, DV.named, bytes_named, hs, selC])
      repeat (first | exact LeL.nil | refine LeL.cons2 ?_ (Le.undef _) | refine LeL.cons2 ?_ (Le.refl _) | refine LeL.cons2 ?_ (Le.sl _) | refine LeL.cons2 ?_ (Le.eq (by first | rfl | exact congrArg _ (by omega))) | refine LeL.cons2 ?_ (Le.eq ?_))
    · have hs : sN a b 2 = sN a b 1 := by simp only [sN, s2]; simp [h]
      refine Q_rndB (A := σ.boxes) (B' := [some ⟨52, [.int .i64 0, .int .i64 0, .int .i64 0, .int .i64 0]⟩, some ⟨52, selC (sN a b 2)⟩]) (rg := []) (mg := []) ?_ (by omega) rfl (by first | rfl | simp only [Nat.reduceAdd]) (by simp only [List.append_nil, List.cons_append, List.nil_append, List.append_assoc, hs, selC]; exact rfl) (by simp) (by simp [nameds, DV.named, bytes_named]) (by simp [nameds, DV.named, bytes_named, hs, selC])
      repeat (first | exact LeL.nil | refine LeL.cons2 ?_ (Le.undef _) | refine LeL.cons2 ?_ (Le.refl _) | refine LeL.cons2 ?_ (Le.sl _) | refine LeL.cons2 ?_ (Le.eq (by first | rfl | exact congrArg _ (by omega))) | refine LeL.cons2 ?_ (Le.eq ?_))
  · repeat' (first | (show Ev _ (.region _ _ true) _ _; first | refine D_start [18, 40, 45] mix ?_ | refine D_startA [18, 40, 45] mix ?_) | (show DrD _ _ _ [] _ _ _ _; refine D_nil ?_; try dsimp only) | (show DrD _ _ _ (_ :: _) _ _ _ _; first | refine D_run tok ?_ ?_ (by intro R; simp (maxSteps := 1000000) (disch := omega) only [go_sem, tmod2, wrap_i64_id, selC]; with_reducible exact rfl) | refine D_runA tok ?_ ?_ (by intro R; simp (maxSteps := 1000000) (disch := omega) only [go_sem, tmod2, wrap_i64_id, selC]; with_reducible exact rfl) | refine D_con ?_ ?_ | refine D_own ?_ ?_ | refine D_app ?_ ?_ ?_ | refine D_store tok ?_ ?_ | refine D_eff tok ?_ ?_) | (show Ev _ _ _ _; first | refine Ev_seq ?_ | refine W_reg ?_ | refine Ev_block ?_ | refine W_ifT ?_ | refine W_ifF ?_ | refine W_ifY ?_ | refine W_ifN ?_ | refine W_ifP (fun h => ?_) (fun h => ?_) | refine W_ifB (fun h => ?_) (fun h => ?_) | refine Ev_skip ?_ | refine Ev_exit ?_ | refine Ev_ret ?_) | (show EvD _ _ [] _ _ _; refine W_nil ?_) | (show EvD _ _ (⟨_, _, _, _, _, some _⟩ :: _) _ _ _; first | refine W_grdY ?_ | refine W_grdN ?_ | refine W_grdP (fun h => ?_) (fun h => ?_) | refine W_grdB (fun h => ?_) (fun h => ?_)) | (show EvD _ _ (⟨some _, .buildSlice _ _ _, _, _, _, none⟩ :: ⟨some _, .convert _ _ (.tmp _), _, _, _, none⟩ :: _) _ _ _; refine W_lit tok ?_ ?_) | (show EvD _ _ (_ :: _) _ _ _; first | refine W_run tok ?_ ?_ (by simp (maxSteps := 1000000) (disch := omega) only [go_sem, tmod2, wrap_i64_id, selC]; with_reducible exact rfl) | refine W_callee ?_ | refine W_frz ?_ | refine W_isnil tok (fun qn hqn => ?_)) | (show EvC _ _ _ _ _ _ _ _ _; first | refine W_con ?_ ?_ | refine W_conOwn ?_ ?_ | refine W_conApp ?_ ?_ ?_ | refine W_weak ?_ | refine W_frzArg ?_) | (show RetQ _ _ _ _ _; first | refine R_ret ?_ ?_ | refine R_own ?_ ?_) | (show FrzTo _ _ _ _; first | refine F_row ?_ | refine F_weak ?_) | refine Q_thenN ?_ | refine Q_thenE ?_ | refine Q_thenR ?_ | refine Q_blkN ?_ | refine Q_blkE ?_ | (show blockQ _ _ _ _; refine Q_blkX ?_) | refine Q_blkR ?_ | refine Q_rndE ?_ | refine Q_rndR ?_)
    all_goals (try first | exact trivial | omega | (simp only [List.length_take, List.length_drop, List.length_append, List.length_replicate, List.length_cons, List.length_nil, bytes_len, beN_len, Int.reduceToNat, true_and, and_true]; omega))
    all_goals (try refine F_done ?_)
    · have e : sN a b 2 = s2 a b := rfl
      rw [e] at h ⊢
      rcases s2_gen a b with hx | ⟨x, hx, hg⟩
      · simp [hx, selC, selV]
      · simp only [hx, selV, Bool.and_eq_true, decide_eq_true_eq] at h
        omega
    · have e : sN a b 2 = s2 a b := rfl
      rw [e] at h ⊢
      rcases s2_gen a b with hx | ⟨x, hx, hg⟩
      · simp [hx, selV] at h
      · simp [hx, selC, selV]
instance i_super_Choose (a b : List UInt8) : Con Try.prog 36 [.sl (bytes a), .sl (bytes b)] (a.length < 1099511627776 ∧ b.length < 1099511627776) (.tup [.agg (selC (s2 a b)), .int .i64 (if (s2 a b).isSome then 0 else 7)]) := ⟨c_super_Choose a b ⟩
theorem c_bursarref07_Choose (a b : List UInt8) (hC : a.length < 1099511627776 ∧ b.length < 1099511627776) : Pure Try.prog n_bursarref07_Choose [.str a, .str b] (.tup [.agg (selC (s2 a b)), .bool (s2 a b).isSome]) := by
  refine Pure.go tok (rs := [.cell 4 52, .tmp 5]) [.str a, .str b, .undef, .undef, .undef, .undef, .undef, .undef, .undef, .undef, .undef, .undef, .undef, .undef, .undef, .undef, .undef, .undef, .undef, .undef, .undef, .undef, .undef, .undef, .undef, .undef, .undef, .undef, .undef, .undef, .undef, .undef, .undef, .undef, .undef, .undef, .undef, .undef, .undef, .undef, .undef, .undef, .undef, .undef, .undef, .undef, .undef, .undef, .undef, .undef, .undef, .undef, .undef, .undef] Try.func37 (fun σ => ?_)
  have na := decV_nn a 4 10
  have nb := decV_nn b 4 10
  have ga := dec_gen a
  have gb := dec_gen b
  repeat' (first | (show Ev _ (.region _ _ true) _ _; first | refine D_start [18, 40, 45] mix ?_ | refine D_startA [18, 40, 45] mix ?_) | (show DrD _ _ _ [] _ _ _ _; refine D_nil ?_; try dsimp only) | (show DrD _ _ _ (_ :: _) _ _ _ _; first | refine D_run tok ?_ ?_ (by intro R; simp (maxSteps := 1000000) (disch := omega) only [go_sem, tmod2, wrap_i64_id]; with_reducible exact rfl) | refine D_runA tok ?_ ?_ (by intro R; simp (maxSteps := 1000000) (disch := omega) only [go_sem, tmod2, wrap_i64_id]; with_reducible exact rfl) | refine D_con ?_ ?_ | refine D_own ?_ ?_ | refine D_app ?_ ?_ ?_ | refine D_store tok ?_ ?_ | refine D_eff tok ?_ ?_) | (show Ev _ _ _ _; first | refine Ev_seq ?_ | refine W_reg ?_ | refine Ev_block ?_ | refine W_ifT ?_ | refine W_ifF ?_ | refine W_ifY ?_ | refine W_ifN ?_ | refine W_ifP (fun h => ?_) (fun h => ?_) | refine W_ifB (fun h => ?_) (fun h => ?_) | refine Ev_skip ?_ | refine Ev_exit ?_ | refine Ev_ret ?_) | (show EvD _ _ [] _ _ _; refine W_nil ?_) | (show EvD _ _ (⟨_, _, _, _, _, some _⟩ :: _) _ _ _; first | refine W_grdY ?_ | refine W_grdN ?_ | refine W_grdP (fun h => ?_) (fun h => ?_) | refine W_grdB (fun h => ?_) (fun h => ?_)) | (show EvD _ _ (⟨some _, .buildSlice _ _ _, _, _, _, none⟩ :: ⟨some _, .convert _ _ (.tmp _), _, _, _, none⟩ :: _) _ _ _; refine W_lit tok ?_ ?_) | (show EvD _ _ (_ :: _) _ _ _; first | refine W_run tok ?_ ?_ (by simp (maxSteps := 1000000) (disch := omega) only [go_sem, tmod2, wrap_i64_id]; with_reducible exact rfl) | refine W_callee ?_ | refine W_frz ?_ | refine W_isnil tok (fun qn hqn => ?_)) | (show EvC _ _ _ _ _ _ _ _ _; first | refine W_con ?_ ?_ | refine W_conOwn ?_ ?_ | refine W_conApp ?_ ?_ ?_ | refine W_weak ?_ | refine W_frzArg ?_) | (show RetQ _ _ _ _ _; first | refine R_ret ?_ ?_ | refine R_own ?_ ?_) | (show FrzTo _ _ _ _; first | refine F_row ?_ | refine F_weak ?_) | refine Q_thenN ?_ | refine Q_thenE ?_ | refine Q_thenR ?_ | refine Q_blkN ?_ | refine Q_blkE ?_ | (show blockQ _ _ _ _; refine Q_blkX ?_) | refine Q_blkR ?_ | refine Q_rndE ?_ | refine Q_rndR ?_)
  all_goals (try first | exact trivial | omega | (simp only [List.length_take, List.length_drop, List.length_append, List.length_replicate, List.length_cons, List.length_nil, bytes_len, beN_len, Int.reduceToNat, true_and, and_true]; omega))
  all_goals (try refine F_done ?_)
  all_goals
    by_cases p1 : decE a = 0 ∧ decV a 4 10 % 2 = 0
    · have s1v : s1 a = some a := if_pos p1
      by_cases p2 : decE b = 0 ∧ decV b 4 10 % 2 = 1 ∧ decV a 4 10 < decV b 4 10
      · have s2v : s2 a b = some b := by unfold s2; rw [s1v]; exact if_pos p2
        rw [s2v]
        first | rfl | (exfalso; omega)
      · have s2v : s2 a b = some a := by unfold s2; rw [s1v]; exact if_neg p2
        rw [s2v]
        first | rfl | (exfalso; omega)
    · have s1v : s1 a = none := if_neg p1
      by_cases p2 : decE b = 0 ∧ decV b 4 10 % 2 = 1 ∧ 0 < decV b 4 10
      · have s2v : s2 a b = some b := by unfold s2; rw [s1v]; exact if_pos p2
        rw [s2v]
        first | rfl | (exfalso; omega)
      · have s2v : s2 a b = none := by unfold s2; rw [s1v]; exact if_neg p2
        rw [s2v]
        first | rfl | (exfalso; omega)
instance i_bursarref07_Choose (a b : List UInt8) : Con Try.prog 37 [.str a, .str b] (a.length < 1099511627776 ∧ b.length < 1099511627776) (.tup [.agg (selC (s2 a b)), .bool (s2 a b).isSome]) := ⟨c_bursarref07_Choose a b ⟩
end Go.Val.Ytloeeiamgaljoaa
