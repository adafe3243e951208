/- Chapter 09: what is found in a tree by the program, walked. -/
import Derived.Test.YtgjmpefhjdgkoaaN09u
namespace Go.Val.Ytgjmpefhjdgkoaa
open Go Go.Val Go.Proofs Go.Proofs.Ytgjmpefhjdgkoaa
attribute [local irreducible] Ev EvD EvC thenQ blockQ RoundG RetQ
set_option maxRecDepth 100000
set_option maxHeartbeats 4000000
set_option linter.unusedSimpArgs false
set_option linter.unusedVariables false
def keyIs (k : List UInt8) : DV → Bool
 | .agg (.str a :: _) => decide (a = k)
 | _ => false
theorem c_tree_Find_2 (a b k : List UInt8) (hC : True) : Pure Try.prog n_tree_Find_2 [.agg [.str a, .str b], .cp [.str k]] (.bool (decide (a = k))) := by
 refine Pure.go tok (rs := [.tmp 3]) [.agg [.str a, .str b], .cp [.str k], .undef, .undef, .undef, .undef, .undef, .undef] Try.func75 (fun σ => ?_)
 repeat' (first | (show Ev _ _ _ _; first | refine Ev_seq ?_ | refine W_reg ?_ | refine Ev_ret ?_) | (show EvD _ _ [] _ _ _; refine W_nil ?_) | (show EvD _ _ (_ :: _) _ _ _; refine W_run tok ?_ ?_) | (show RetQ _ _ (RP _ _) _ _; refine R_ret ?_ ?_) | refine Q_thenN ?_ | fail)
 all_goals (try exact sd)
 all_goals (try refine F_done ?_)
 all_goals first | rfl | trace_state
instance i_tree_Find_2 (a b k : List UInt8) : Con Try.prog 75 [.agg [.str a, .str b], .cp [.str k]] (True) (.bool (decide (a = k))) := ⟨c_tree_Find_2 a b k ⟩
instance p_Find_2 (k : List UInt8) : PredC Try.prog 75 [] [.cp [.str k]] (fun x => ∃ a b, x = .agg [.str a, .str b]) (keyIs k) :=
 PredC.of at_tree_Find_2 (fun x ⟨a, b, e⟩ => by subst e; exact c_tree_Find_2 a b k trivial)
theorem pairsD_at (P : List PairB) (i : Nat) (h : i < (pairsD P).length) : (pairsD P)[i] = .agg [.str (P.getD i ([], [])).1, .str (P.getD i ([], [])).2] := by
 have h' : i < P.length := by rwa [pairsD_len] at h
 simp [pairsD, pairD, List.getD_eq_getElem?_getD, List.getElem?_eq_getElem h']
theorem pcl_at (P : List PairB) {g i : Nat} (hi : i < 5) (h : 5 * g + i < P.length) : i < (pcl P g).length ∧ (pcl P g).getD i ([], []) = P.getD (5 * g + i) ([], []) := by
 refine ⟨by simp only [pcl, List.length_take, List.length_drop]; omega, ?_⟩
 simp [pcl, List.getD_eq_getElem?_getD, List.getElem?_take, List.getElem?_drop, hi]
theorem leaf_find {P : List PairB} (hn : P.length ≤ 3000) (hm : mayT P = true) (k : List UInt8) :
  (fstK P k < P.length → idxI (keyIs k) (pairsD (pcl P (pth P k (rdC (nL P.length)) (rdC (nL P.length))))) = ((fstK P k % 5 : Nat) : Int) ∧ fstK P k % 5 < (pcl P (pth P k (rdC (nL P.length)) (rdC (nL P.length)))).length ∧ (pcl P (pth P k (rdC (nL P.length)) (rdC (nL P.length)))).getD (fstK P k % 5) ([], []) = P.getD (fstK P k) ([], [])) ∧
  (¬ fstK P k < P.length → idxI (keyIs k) (pairsD (pcl P (pth P k (rdC (nL P.length)) (rdC (nL P.length))))) = -1) := by
 have hall : ∀ i, i < fstK P k → ¬ keyAt P i = k := fun i hi => by
  have := firstN_lt (p := fun i => decide (keyAt P i = k)) hi
  simpa using this
 refine ⟨fun hl => ?_, fun hl => ?_⟩
 ·have hk : keyAt P (fstK P k) = k := by
   have := firstN_eq (p := fun i => decide (keyAt P i = k)) hl
   simpa [fstK] using this
  have hok := pth_ok hn hm hl (rdC (nL P.length)) (Nat.le_refl _)
  rw [hk, Nat.sub_self, loL, loL] at hok
  obtain ⟨g, hg⟩ : ∃ g, g = pth P k (rdC (nL P.length)) (rdC (nL P.length)) := ⟨_, rfl⟩
  rw [← hg] at hok ⊢
  generalize fstK P k = m at *
  have hgm : 5 * g + m % 5 = m := by omega
  obtain ⟨a, b⟩ := pcl_at P (g := g) (i := m % 5) (by omega) (by omega)
  rw [hgm] at b
  refine ⟨?_, a, b⟩
  have ha : m % 5 < (pairsD (pcl P g)).length := by rw [pairsD_len]; exact a
  have hf : (pairsD (pcl P g)).findIdx (keyIs k) = m % 5 := by
   rw [List.findIdx_eq ha]
   refine ⟨?_, fun j hj => ?_⟩
   ·rw [pairsD_at, b]
    have : (P.getD m ([], [])).1 = k := hk
    exact decide_eq_true this
   ·rw [pairsD_at, (pcl_at P (g := g) (i := j) (by omega) (by omega)).2]
    have : ¬ (P.getD (5 * g + j) ([], [])).1 = k := hall (5 * g + j) (by omega)
    simp only [keyIs, decide_eq_false_iff_not]
    exact this
  unfold idxI
  rw [hf, if_pos ha]
 ·have hle : fstK P k ≤ P.length := firstN_le _ _
  have hno : ∀ i, i < P.length → ¬ keyAt P i = k := fun i hi => hall i (by omega)
  generalize pth P k (rdC (nL P.length)) (rdC (nL P.length)) = g
  have hf : (pairsD (pcl P g)).findIdx (keyIs k) = (pairsD (pcl P g)).length := by
   rw [List.findIdx_eq_length]
   intro x hx
   obtain ⟨j, hj, rfl⟩ := List.getElem_of_mem hx
   have hj' : j < (pcl P g).length := by rwa [pairsD_len] at hj
   have hj5 : j < 5 ∧ 5 * g + j < P.length := by
    simp only [pcl, List.length_take, List.length_drop] at hj'; omega
   rw [pairsD_at, (pcl_at P (g := g) hj5.1 hj5.2).2]
   have : ¬ (P.getD (5 * g + j) ([], [])).1 = k := hno (5 * g + j) hj5.2
   simp only [keyIs, decide_eq_false_iff_not]
   exact this
  unfold idxI
  rw [hf, if_neg (Nat.lt_irrefl _)]
abbrev cellsN (x : NodeB) : List DV := [.sl (pairsD x.1), .sl (strsD x.2.1), .sl (kidsD x.2.2)]
theorem keyAt_mono {P : List PairB} (hm : mayT P = true) {r g : Nat} (hr : r + 1 ≤ rdC (nL P.length)) (hg : g < lvN (nL P.length) (r + 1)) (k : List UInt8) {i j : Nat} (hij : i ≤ j) (hj : j + 1 < grpN P r g) :
  gtB (keyAt P (5 * loL (nL P.length) r (stG (lvN (nL P.length) r) g + i + 1))) k = true → gtB (keyAt P (5 * loL (nL P.length) r (stG (lvN (nL P.length) r) g + j + 1))) k = true := by
 intro h
 obtain ⟨h1, h2, h3, h4, h5⟩ := grpN_eq P _ _ hr hg
 rcases Nat.lt_or_ge i j with hl | hl
 ·have h6 := loL_lt (nL P.length) r (by omega) (stG (lvN (nL P.length) r) g + i + 1) (stG (lvN (nL P.length) r) g + j + 1) (by omega) (by omega)
  have h7 := loL_lt (nL P.length) r (by omega) (stG (lvN (nL P.length) r) g + j + 1) (lvN (nL P.length) r) (by omega) (Nat.le_refl _)
  rw [loL_end] at h7
  have h8 := nL_in h7 (by omega)
  rw [gtB_iff] at h ⊢
  exact ltB_trans h (mayT_lt' hm (by omega) h8)
 ·obtain rfl : i = j := by omega
  exact h
theorem rightT_bld {N : List NodeB} (h : rightT N = true) : mayT (pairsOf N) = true ∧ pagesT (pairsOf N).length ≤ 200 ∧ N = bldT (pairsOf N) := by
 simp only [rightT, Bool.and_eq_true, decide_eq_true_eq] at h
 obtain ⟨_, h1, h2⟩ := h
 unfold bldR at h1 h2
 by_cases a : mayT (pairsOf N) = false
 ·rw [if_pos a] at h1; cases h1
 ·rw [if_neg a] at h1 h2
  by_cases b : 200 < pagesT (pairsOf N).length
  ·rw [if_pos b] at h1; cases h1
  ·rw [if_neg b] at h2
   exact ⟨by simpa using a, by omega, h2.symm⟩
theorem nodesD_at {P : List PairB} {r g : Nat} (hr : r ≤ rdC (nL P.length)) (hg : g < lvN (nL P.length) r) : (nodesD (bldT P)).getD (sumP (nL P.length) r + g) .undef = .agg (cellsN (nodeAt P r g)) := by
 rw [nodesD, List.getD_eq_getElem?_getD, List.getElem?_map, bldT, bst_at P _ r g hr hg]; rfl
theorem c_tree_Find (N : List NodeB) (k : List UInt8) (hC : sizeT N) : Pure Try.prog n_tree_Find [.sl (nodesD N), .str k] (.tup [.str (fndT N k).1, .int .i64 ((fndT N k).2.1 : Nat), .int .i64 ((fndT N k).2.2 : Nat)]) := by
 refine Pure.go tok (rs := [.tmp 4, .tmp 5, .tmp 6]) [.sl (nodesD N), .str k, .undef, .undef, .undef, .undef, .undef, .undef, .undef, .undef, .undef, .undef, .undef, .undef, .undef, .undef, .undef, .undef, .undef, .undef, .undef, .undef, .undef, .undef, .undef, .undef, .undef, .undef, .undef, .undef, .undef, .undef, .undef, .undef, .undef, .undef, .undef, .undef, .undef, .undef, .undef, .undef, .undef, .undef, .undef, .undef, .undef, .undef, .undef, .undef, .undef, .undef, .undef] Try.func41 (fun σ => ?_)
 have iR : Con Try.prog 39 [.sl (nodesD N)] True (.bool (rightT N)) := ⟨fun _ => c_tree_Right N hC⟩
 obtain ⟨h1, h2, h3⟩ := hC
 unfold fndT
 by_cases hr : rightT N = false
 ·rw [if_pos hr]
  rw [hr] at iR
  repeat' (first | (show Ev _ _ _ _; first | refine Ev_seq ?_ | refine W_reg ?_ | refine W_ifT ?_ | refine Ev_ret ?_) | (show EvD _ _ [] _ _ _; refine W_nil ?_) | (show EvD _ _ (_ :: _) _ _ _; first | refine W_run tok ?_ ?_ (by simp (maxSteps := 1000000) (disch := omega) only [go_sem, wrap_i64_id]; with_reducible exact rfl) | refine W_callee ?_) | (show EvC _ _ _ _ _ _ _ _ _; refine W_con ?_ ?_) | (show RetQ _ _ (RP _ _) _ _; refine R_ret ?_ ?_) | refine Q_thenN ?_ | refine Q_thenR ?_ | fail)
  all_goals (try exact sd)
  all_goals (try refine F_done ?_)
  all_goals first | rfl | trace_state
 ·rw [if_neg hr]
  rw [Bool.not_eq_false] at hr
  rw [hr] at iR
  obtain ⟨hm, hp, hN⟩ := rightT_bld hr
  have hsN := nodesD_len N
  generalize pairsOf N = P at *
  obtain ⟨lf1, lf2⟩ := leaf_find h3 hm k
  have hlt := pth_lt P k
  have hmono := fun {r g : Nat} (a : r + 1 ≤ rdC (nL P.length)) (b : g < lvN (nL P.length) (r + 1)) => @keyAt_mono P hm r g a b k
  have hc6 := nL_le h3
  have hNl : N.length = sumL (nL P.length) (rdC (nL P.length)) := by rw [hN]; exact bst_all P _
  have hpT : pagesT P.length = sumL (nL P.length) (rdC (nL P.length)) := rfl
  have hroot := nodesD_at (P := P) (r := rdC (nL P.length)) (g := 0) (Nat.le_refl _) (lvN_pos (nL_pos _) _)
  have hL1 : lvN (nL P.length) (rdC (nL P.length)) = 1 := by
   have a := lvN_pos (nL_pos P.length) (rdC (nL P.length))
   have b := rdC_end hc6
   omega
  have hsp := sumP_L (nL P.length) (rdC (nL P.length))
  have hd6 := rdC_le (nL P.length)
  have hat := @nodesD_at P
  rw [← hN, Nat.add_zero] at hroot
  rw [← hN] at hat
  have e1 : ((N.length : Int) - 1).toNat = sumP (nL P.length) (rdC (nL P.length)) := by omega
  have hdep : ((depthT P.length : Nat) : Int) = ((1 + rdC (nL P.length) : Nat) : Int) := rfl
  rw [hdep]
  generalize hR : rdC (nL P.length) = R at *
  obtain ⟨x0, hx0⟩ : ∃ x, x = nodeAt P R 0 := ⟨_, rfl⟩
  rw [← hx0] at hroot
  repeat' (first | (show Ev _ _ _ _; first | refine Ev_seq ?_ | refine W_reg ?_ | refine Ev_block ?_ | refine W_ifF ?_ | refine Ev_skip ?_) | (show EvD _ _ [] _ _ _; refine W_nil ?_) | (show EvD _ _ (_ :: _) _ _ _; first | refine W_run tok ?_ ?_ (by simp (maxSteps := 1000000) (disch := omega) only [go_sem, wrap_i64_id, hsN, e1, hroot]; with_reducible exact rfl) | refine W_callee ?_) | (show EvC _ _ _ _ _ _ _ _ _; refine W_con ?_ ?_) | refine Q_thenN ?_ | fail)
  all_goals (try exact sd)
  all_goals (try refine F_done ?_)
  refine Ev_fixS σ.boxes.length (by (try simp only [app_get, app_get0, List.getElem?_cons_succ, List.getElem?_cons_zero]) <;> exact rfl) (by (try simp (disch := omega) only [List.map_cons, List.map_nil, bfz, bfz1, if_true, if_pos, if_neg, List.drop_zero]) <;> exact rfl) (by (try simp only [app_set, app_set0, List.set_cons_succ, List.set_cons_zero]) <;> exact rfl) ?_
  refine Ev_lp (R) (fun t => [(8, i64 (1 + t))]) (fun t => ⟨σ.rows, σ.boxes ++ [none, some ⟨42, cellsN (nodeAt P (R - t) (pth P k R t))⟩], σ.maps⟩) [9, 20, 21, 22, 23, 24, 25, 26, 27, 28, 29, 30, 31, 32, 33, 34, 35, 36, 37, 38] ?_ (by simp [pth, hx0]) (fun t hi => ?_)
  ·exact le1
  have hg := hlt t (by omega)
  by_cases ht : t < R
  ·obtain ⟨r, hr2⟩ : ∃ r, r = R - (t + 1) := ⟨_, rfl⟩
   have e2 : R - t = r + 1 := by omega
   have hpn : pth P k R (t + 1) = stG (lvN (nL P.length) r) (pth P k R t) + kidI P k r (pth P k R t) := by rw [pth, ← hr2]
   have hg2 := hlt (t + 1) (by omega)
   obtain ⟨g', hg'⟩ : ∃ g', g' = pth P k R (t + 1) := ⟨_, rfl⟩
   rw [← hg'] at hpn hg2
   rw [← hr2] at hg2
   rw [e2] at hg ⊢
   obtain ⟨q1, q2, q3, q4, q5⟩ := grpN_eq P r _ (by omega) hg
   have hkey := fun i => key_at P r _ i (by omega) hg
   have hkid := fun i => kid_at P r _ i (by omega) hg
   have hmo := fun {i j : Nat} => @hmono r _ (by omega) hg i j
   obtain ⟨g, hgg⟩ : ∃ g, g = pth P k R t := ⟨_, rfl⟩
   rw [← hgg] at hg hpn q1 q2 q3 q4 q5 hkey hkid hmo ⊢
   have hK : (keysG (grp (bst P r).2 g)).length = grpN P r g - 1 := by rw [keysG_len, q1]
   have hC2 : (kidsG (grp (bst P r).2 g)).length = grpN P r g := by rw [kidsG_len, q1]
   have hnode : nodeAt P (r + 1) g = ([], keysG (grp (bst P r).2 g), kidsG (grp (bst P r).2 g)) := rfl
   rw [hnode]
   generalize keysG (grp (bst P r).2 g) = K at *
   generalize kidsG (grp (bst P r).2 g) = C at *
   have hki : firstN K.length (fun i => gtB (K.getD i []) k) = kidI P k r g := by
    unfold kidI
    rw [hK]
    have := @firstN_congr (grpN P r g - 1) (fun i => gtB (K.getD i []) k) (fun i => gtB (keyAt P (5 * loL (nL P.length) r (stG (lvN (nL P.length) r) g + i + 1))) k) (fun i hi => by rw [hkey i (by omega)])
    exact this
   have hD := c_Search σ.rows σ.boxes σ.maps [] K C k (by omega) (fun i j hij hj => by
    rw [hkey i (by omega), hkey j (by omega)]
    exact hmo hij (by omega))
   rw [hki] at hD
   have hkl : kidI P k r g ≤ grpN P r g - 1 := firstN_le _ _
   have hgC : (kidsD C).getD (kidI P k r g) .undef = .int .i64 ((sumP (nL P.length) r + g' : Nat) : Int) := by
    rw [kidsD_get (by omega), hkid _ (by omega), hpn]
   have hgN := hat (r := r) (g := g') (by omega) hg2
   have hiN : sumP (nL P.length) r + g' < N.length := by
    rw [hNl]; exact in_level _ r g' R (by omega) hg2
   generalize kidI P k r g = f at *
   generalize sumP (nL P.length) r + g' = v at *
   have hCl := kidsD_len C
   have hKl := strsD_len K
   have d1 : decide ((C.length : Int) > 0) = true := decide_eq_true (by omega)
   repeat' (first | (show Ev _ _ _ _; first | refine Ev_seq ?_ | refine W_reg ?_ | refine Ev_block ?_ | refine W_ifT ?_ | refine Ev_skip ?_) | (show EvD _ _ [] _ _ _; refine W_nil ?_) | (show EvD _ _ (_ :: _) _ _ _; first | refine W_run tok ?_ ?_ (by simp (maxSteps := 1000000) (disch := omega) only [go_sem, wrap_i64_id, d1]; with_reducible exact rfl) | refine W_callee ?_) | refine Q_thenN ?_ | fail)
   all_goals (try exact sd)
   all_goals (try refine F_done ?_)
   refine W_does hD ?_
   repeat' (first | (show Ev _ _ _ _; refine W_reg ?_) | (show EvD _ _ [] _ _ _; refine W_nil ?_) | (show EvD _ _ (_ :: _) _ _ _; first | refine W_run tok ?_ ?_ (by simp (maxSteps := 1000000) (disch := omega) only [go_sem, wrap_i64_id, hgC, hgN]; with_reducible exact rfl)) | refine Q_thenN ?_ | refine Q_blkN ?_ | fail)
   all_goals (try exact sd)
   all_goals (try refine F_done ?_)
   refine Q_rndN ?_ (by omega) ?_
   rotate_left
   ·rw [← hr2, ← hg']
   repeat (first | exact LeL.nil | refine LeL.cons2 ?_ (Le.undef _) | refine LeL.cons2 ?_ (Le.refl _) | refine LeL.cons2 ?_ (Le.sl _) | refine LeL.cons2 ?_ (Le.eq (by first | rfl | exact congrArg _ (by omega))) | refine LeL.cons2 ?_ (Le.eq ?_))
   all_goals trace_state
  ·obtain rfl : t = R := by omega
   rw [Nat.sub_self] at hg ⊢
   have hnode : nodeAt P 0 (pth P k t t) = (pcl P (pth P k t t), [], []) := rfl
   rw [hnode]
   have hL5 := (pcl_len P (pth P k t t)).1
   generalize pcl P (pth P k t t) = L at *
   have hLl := pairsD_len L
   have hok : ((pairsD L).length < 1099511627776 ∧ ∀ x ∈ pairsD L, ∃ a b, x = .agg [a, b]) ∧ ∀ x ∈ pairsD L, ∃ a b, x = .agg [.str a, .str b] := pairs_ok (by omega)
   unfold fndP
   generalize fstK P k = m at *
   have iX := i_IdxQ (pairsD L) 75 [] [.cp [.str k]]
   by_cases hfm : m < P.length
   ·obtain ⟨w1, w2, w3⟩ := lf1 hfm
    rw [w1] at iX
    rw [if_pos hfm]
    have hg3 := pairsD_get w2
    rw [w3] at hg3
    repeat' (first | (show Ev _ _ _ _; first | refine Ev_seq ?_ | refine W_reg ?_ | refine W_ifN ?_ | refine Ev_skip ?_ | refine Ev_exit ?_ | refine Ev_ret ?_) | (show EvD _ _ [] _ _ _; refine W_nil ?_) | (show EvD _ _ (_ :: _) _ _ _; first | refine W_run tok ?_ ?_ (by simp (maxSteps := 1000000) (disch := omega) only [go_sem, wrap_i64_id, hg3]; with_reducible exact rfl) | refine W_callee ?_) | (show EvC _ _ _ _ _ _ _ _ _; refine W_con ?_ ?_) | (show RetQ _ _ (RP _ _) _ _; refine R_ret ?_ ?_) | refine Q_thenN ?_ | refine Q_thenE ?_ | refine Q_blkE ?_ | refine Q_rndE ?_ | fail)
    all_goals (try exact sd)
    all_goals (try refine F_done ?_)
    all_goals first | rfl | exact hok | trace_state
   ·have w1 := lf2 hfm
    rw [w1] at iX
    rw [if_neg hfm]
    repeat' (first | (show Ev _ _ _ _; first | refine Ev_seq ?_ | refine W_reg ?_ | refine W_ifT ?_ | refine W_ifN ?_ | refine Ev_exit ?_ | refine Ev_ret ?_) | (show EvD _ _ [] _ _ _; refine W_nil ?_) | (show EvD _ _ (_ :: _) _ _ _; first | refine W_run tok ?_ ?_ (by simp (maxSteps := 1000000) (disch := omega) only [go_sem, wrap_i64_id]; with_reducible exact rfl) | refine W_callee ?_) | (show EvC _ _ _ _ _ _ _ _ _; refine W_con ?_ ?_) | (show RetQ _ _ (RP _ _) _ _; refine R_ret ?_ ?_) | refine Q_thenN ?_ | refine Q_thenE ?_ | refine Q_thenR ?_ | refine Q_blkE ?_ | refine Q_rndE ?_ | fail)
    all_goals (try exact sd)
    all_goals (try refine F_done ?_)
    all_goals first | rfl | exact hok | trace_state
instance i_tree_Find (N : List NodeB) (k : List UInt8) : Con Try.prog 41 [.sl (nodesD N), .str k] (sizeT N) (.tup [.str (fndT N k).1, .int .i64 ((fndT N k).2.1 : Nat), .int .i64 ((fndT N k).2.2 : Nat)]) := ⟨c_tree_Find N  k ⟩
end Go.Val.Ytgjmpefhjdgkoaa
