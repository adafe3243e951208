/- Chapter 09: a tree is built, walked. -/
import Derived.Test.YtgjmpefhjdgkoaaN09e
namespace Go.Val.Ytgjmpefhjdgkoaa
open Go Go.Val Go.Proofs Go.Proofs.Ytgjmpefhjdgkoaa
attribute [local irreducible] Ev EvD EvC thenQ blockQ RoundG RetQ
set_option maxRecDepth 100000
set_option maxHeartbeats 4000000
set_option linter.unusedSimpArgs false
set_option linter.unusedVariables false
theorem stG_step {c i : Nat} (h1 : 1 < c) (h : i < pcM c 8) : stG c i + 1 ≤ stG c (i + 1) ∧ stG c (i + 1) ≤ c ∧ stG c (i + 1) ≤ stG c i + 8 := by
 unfold pcM at h
 have h8 : 8 * i < c := by omega
 by_cases a : 8 * i + 1 = c ∧ 0 < i
 ·rw [stG_cut a.1 a.2, stG_end (by omega)]; omega
 ·rw [stG_mul a (by omega)]
  by_cases b : 8 * (i + 1) + 1 = c
  ·rw [stG_cut b (by omega)]; omega
  ·by_cases e : c ≤ 8 * (i + 1)
   ·rw [stG_end e]; omega
   ·rw [stG_mul (by omega) (by omega)]; omega
theorem grp_len {lv : List PartB} {i : Nat} (h1 : 1 < lv.length) (h : i < pcM lv.length 8) : 1 ≤ (grp lv i).length ∧ (grp lv i).length ≤ 8 := by
 obtain ⟨a, b, c⟩ := stG_step h1 h
 simp only [grp, List.length_take, List.length_drop]
 omega
theorem pcl_len (P : List PairB) (i : Nat) : (pcl P i).length ≤ 5 ∧ (5 * i < P.length → 1 ≤ (pcl P i).length) := by
 simp only [pcl, List.length_take, List.length_drop]; omega
theorem pcl_key {P : List PairB} {i : Nat} (h : 5 * i < P.length) : ∃ v, (pairsD (pcl P i)).getD 0 .undef = .agg [.str (keyAt P (5 * i)), .str v] := by
 have hl := (pcl_len P i).2 h
 refine ⟨((pcl P i).getD 0 ([], [])).2, (pairsD_get hl).trans ?_⟩
 have e : (pcl P i).getD 0 ([], []) = P.getD (5 * i) ([], []) := by
  simp [pcl, List.getD_eq_getElem?_getD, List.getElem?_take, List.getElem?_drop]
 rw [e]; rfl
theorem kids_snoc {q : List PartB} {j : Nat} (h : j < q.length) : kidsD (kidsG (q.take j)) ++ [.int .i64 ((q.getD j (0, [])).1 : Int)] = kidsD (kidsG (q.take (j + 1))) := by
 rw [List.take_add_one, List.getElem?_eq_getElem h, List.getD_eq_getElem?_getD, List.getElem?_eq_getElem h]
 simp only [kidsD, kidsG, List.map_append, Option.toList_some, List.map_cons, List.map_nil, Option.getD_some]
theorem keys_snoc {q : List PartB} {j : Nat} (h : j + 1 < q.length) : strsD (keysG (q.take (j + 1))) ++ [.str (q.getD (j + 1) (0, [])).2] = strsD (keysG (q.take (j + 1 + 1))) := by
 rw [List.take_add_one (i := j + 1), List.getElem?_eq_getElem h, List.getD_eq_getElem?_getD, List.getElem?_eq_getElem h]
 have : 1 ≤ (q.take (j + 1)).length := by rw [List.length_take]; omega
 rw [keysG, keysG, List.drop_append_of_le_length this]
 simp [strsD]
theorem keysG_one (q : List PartB) : keysG (q.take 1) = [] := by rcases q with _ | ⟨x, q⟩ <;> rfl
theorem keysG_len (q : List PartB) : (keysG q).length = q.length - 1 := by simp [keysG]
theorem kidsG_len (q : List PartB) : (kidsG q).length = q.length := by simp [kidsG]
def bldX (P : List PairB) : List DV × Nat := if mayT P = false then ([], 1) else if 200 < pagesT P.length then ([], 9) else if P.length = 0 then ([.agg [.slt [], .slt [], .slt []]], 0) else (bstX P (rdC (nL P.length)), 0)
theorem bldX_le (P : List PairB) : Le (.tup [.sl (bldX P).1, .int .i64 (bldX P).2]) (.tup [.sl (nodesD (bldR P).1), .int .i64 (bldR P).2]) := by
 unfold bldX bldR
 by_cases h1 : mayT P = false
 ·rw [if_pos h1, if_pos h1]; exact Le.refl _
 ·rw [if_neg h1, if_neg h1]
  by_cases h2 : 200 < pagesT P.length
  ·rw [if_pos h2, if_pos h2]; exact Le.refl _
  ·rw [if_neg h2, if_neg h2]
   by_cases h3 : P.length = 0
   ·rw [if_pos h3]
    have h4 : P = [] := List.length_eq_zero_iff.1 h3
    subst h4
    refine Le.tup (.cons (Le.slA rfl ?_) (.refl _))
    intro i x y hx hy
    rcases i with _ | i
    ·have ex : x = .agg [.slt [], .slt [], .slt []] := by simpa using hx.symm
     have ey : y = nodeD3 ([], [], []) := by
      have : (nodesD (bldT [])) = [nodeD3 ([], [], [])] := by rfl
      rw [this] at hy
      simpa using hy.symm
     subst ex; subst ey
     exact ⟨rfl, .cons (.sl _) (.cons (.sl _) (.cons (.sl _) .nil))⟩
    ·simp at hx
   ·rw [if_neg h3]
    exact Le.tup (.cons (bst_le P _) (.refl _))
theorem bldX_named (a b c : Nat) (P : List PairB) : nameds a b c (bldX P).1 = true := by
 unfold bldX
 split
 ·rfl
 ·split
  ·rfl
  ·split
   ·rfl
   ·exact bstX_named _ _ _ _ _
attribute [go_sem] bldX_named
theorem c_tree_Build (P : List PairB) (hC : P.length ≤ 3000) : Pure Try.prog n_tree_Build [.sl (pairsD P)] (.tup [.sl (bldX P).1, .int .i64 (bldX P).2]) := by
 refine Pure.go tok (rs := [.tmp 2, .tmp 3]) [.sl (pairsD P), .undef, .undef, .undef, .undef, .undef, .undef, .undef, .undef, .undef, .undef, .undef, .undef, .undef, .undef, .undef, .undef, .undef, .undef, .undef, .undef, .undef, .undef, .undef, .undef, .undef, .undef, .undef, .undef, .undef, .undef, .undef, .undef, .undef, .undef, .undef, .undef, .undef, .undef, .undef, .undef, .undef, .undef, .undef, .undef, .undef, .undef, .undef, .undef, .undef, .undef, .undef, .undef, .undef, .undef, .undef, .undef, .undef, .undef, .undef, .undef, .undef, .undef, .undef, .undef, .undef, .undef, .undef, .undef, .undef, .undef, .undef, .undef, .undef, .undef, .undef, .undef, .undef, .undef, .undef, .undef, .undef, .undef, .undef, .undef, .undef, .undef, .undef, .undef, .undef, .undef, .undef, .undef, .undef, .undef, .undef, .undef, .undef, .undef, .undef, .undef, .undef, .undef, .undef, .undef] Try.func13 (fun σ => ?_)
 have hl := pairsD_len P
 have hn1 := nL_pos P.length
 have hn2 := nL_le hC
 have hpg : pagesT P.length = sumL (nL P.length) (rdC (nL P.length)) := rfl
 have hpb : pagesT P.length ≤ 3000 := by
  have := sumL_le hn2 (rdC (nL P.length)); have := rdC_le (nL P.length); rw [hpg]; omega
 have iP := i_tree_Pages (P.length : Int)
 rw [Int.toNat_natCast] at iP
 obtain ⟨pg, hpgd⟩ : ∃ pg, pg = pagesT P.length := ⟨_, rfl⟩
 rw [← hpgd] at iP hpb
 unfold bldX
 rw [← hpgd]
 by_cases hm : mayT P = false
 ·rw [if_pos hm]
  repeat' (first | (show Ev _ _ _ _; first | refine Ev_seq ?_ | refine W_reg ?_ | refine Ev_block ?_ | refine W_ifT ?_ | refine Ev_ret ?_) | (show EvD _ _ [] _ _ _; refine W_nil ?_) | (show EvD _ _ (_ :: _) _ _ _; first | refine W_run tok ?_ ?_ (by simp (maxSteps := 1000000) (disch := omega) only [go_sem, wrap_i64_id, hm]; with_reducible exact rfl) | refine W_callee ?_) | (show EvC _ _ _ _ _ _ _ _ _; refine W_con ?_ ?_) | (show RetQ _ _ (RP _ _) _ _; refine R_ret ?_ ?_) | (show FrzTo _ _ _ _; refine F_weak ?_) | refine Q_thenN ?_ | refine Q_thenR ?_ | refine Q_blkR ?_ | fail)
  all_goals (try exact sd)
  all_goals (try refine F_done ?_)
  all_goals rfl
 rw [if_neg hm]
 rw [Bool.not_eq_false] at hm
 by_cases h9 : 200 < pg
 ·rw [if_pos h9]
  repeat' (first | (show Ev _ _ _ _; first | refine Ev_seq ?_ | refine W_reg ?_ | refine Ev_block ?_ | refine W_ifF ?_ | refine W_ifY ?_ | refine Ev_ret ?_) | (show EvD _ _ [] _ _ _; refine W_nil ?_) | (show EvD _ _ (_ :: _) _ _ _; first | refine W_run tok ?_ ?_ (by simp (maxSteps := 1000000) (disch := omega) only [go_sem, wrap_i64_id, hm]; with_reducible exact rfl) | refine W_callee ?_) | (show EvC _ _ _ _ _ _ _ _ _; refine W_con ?_ ?_) | (show RetQ _ _ (RP _ _) _ _; refine R_ret ?_ ?_) | (show FrzTo _ _ _ _; refine F_weak ?_) | refine Q_thenN ?_ | refine Q_thenR ?_ | refine Q_blkR ?_ | fail)
  all_goals (try exact sd)
  all_goals (try refine F_done ?_)
  all_goals rfl
 rw [if_neg h9]
 by_cases h0 : P.length = 0
 ·rw [if_pos h0]
  have f0 : decide ((P.length : Int) = 0) = true := by rw [h0]; rfl
  repeat' (first | (show Ev _ _ _ _; first | refine Ev_seq ?_ | refine W_reg ?_ | refine Ev_block ?_ | refine W_ifT ?_ | refine W_ifF ?_ | refine W_ifN ?_ | refine Ev_ret ?_) | (show EvD _ _ [] _ _ _; refine W_nil ?_) | (show EvD _ _ (_ :: _) _ _ _; first | refine W_run tok ?_ ?_ (by simp (maxSteps := 1000000) (disch := omega) only [go_sem, wrap_i64_id, hm, f0]; with_reducible exact rfl) | refine W_callee ?_) | (show EvC _ _ _ _ _ _ _ _ _; refine W_con ?_ ?_) | (show RetQ _ _ (RP _ _) _ _; refine R_ret ?_ ?_) | (show FrzTo _ _ _ _; refine F_weak ?_) | refine Q_thenN ?_ | refine Q_thenR ?_ | refine Q_blkR ?_ | fail)
  all_goals (try exact sd)
  all_goals (try refine F_done ?_)
  all_goals rfl
 rw [if_neg h0]
 have f0 : decide ((P.length : Int) = 0) = false := decide_eq_false (by omega)
 obtain ⟨m, hmm⟩ : ∃ m, m = pcM P.length 5 := ⟨_, rfl⟩
 have hmn : nL P.length = m := by rw [hmm]; unfold nL pcM; omega
 have h4 : ∀ i, i < m → 5 * i < P.length := fun i hi => pcM_lt (by omega) (hmm ▸ hi)
 have hpl := pcs_len (pairsD P) 5 m
 have iK := i_tree_pieces_api_Pair P
 rw [← hmm] at iK
 rw [hmn] at hn2 ⊢
 repeat' (first | (show Ev _ _ _ _; first | refine Ev_seq ?_ | refine W_reg ?_ | refine Ev_block ?_ | refine W_ifF ?_ | refine W_ifN ?_ | refine Ev_skip ?_) | (show EvD _ _ [] _ _ _; refine W_nil ?_) | (show EvD _ _ (_ :: _) _ _ _; first | refine W_run tok ?_ ?_ (by simp (maxSteps := 1000000) (disch := omega) only [go_sem, wrap_i64_id, hm, f0, hpl]; with_reducible exact rfl) | refine W_callee ?_) | (show EvC _ _ _ _ _ _ _ _ _; refine W_con ?_ ?_) | refine Q_thenN ?_ | refine Q_blkN ?_ | fail)
 all_goals (try exact sd)
 all_goals (try refine F_done ?_)
 refine Ev_seed 4 42 3 rfl (by decide) (by simp only [List.set_cons_succ, List.set_cons_zero]; exact rfl) ?_
 refine Ev_seed 5 80 2 rfl (by decide) (by simp only [List.set_cons_succ, List.set_cons_zero]; exact rfl) ?_
 refine Ev_lp (m) (fun i => [(4, .row σ.rows.length i), (5, .row (σ.rows.length + 1) i), (32, i64 i)]) (fun i => ⟨σ.rows ++ [some ⟨leavesX P i, 42, 3⟩, some ⟨prtsD (level0 P i), 80, 2⟩], σ.boxes, σ.maps⟩) [7, 33, 34, 35, 36, 37, 38, 39, 40, 41, 42, 43, 44, 45, 46, 47, 48, 49, 50, 51, 52] ?_ (by simp [leavesX, level0, prtsD]) (fun i hi => ?_)
 ·exact le1
 by_cases hi' : i < m
 ·have h4i := h4 i hi'
  have hg : (pcs (pairsD P) 5 m).getD i .undef = .sl (pairsD (pcl P i)) := by
   rw [← pcN_pcl, List.getD_eq_getElem?_getD, pcs_get hi']; rfl
  obtain ⟨v, hk⟩ := pcl_key h4i
  obtain ⟨q1, q2⟩ := pcl_len P i
  have q3 := q2 h4i
  have hpc := pairsD_len (pcl P i)
  have hs1 := level0_snoc P i
  have hs2 := leavesX_snoc P i
  have hx1 := leavesX_len P i
  have hx2 := level0_len P i
  unfold leafX at hs2
  repeat' (first | (show Ev _ _ _ _; first | refine Ev_seq ?_ | refine W_reg ?_ | refine Ev_block ?_ | refine W_ifY ?_ | refine Ev_skip ?_) | (show EvD _ _ [] _ _ _; refine W_nil ?_) | (show EvD _ _ (_ :: _) _ _ _; first | refine W_run tok ?_ ?_ (by simp (maxSteps := 1000000) (disch := omega) only [go_sem, wrap_i64_id, hpl, hg, hk, hs1, hs2]; with_reducible exact rfl) | refine W_callee ?_) | (show EvC _ _ _ _ _ _ _ _ _; refine W_con ?_ ?_) | refine Q_thenN ?_ | refine Q_blkN ?_ | fail)
  all_goals (try exact sd)
  all_goals (try refine F_done ?_)
  refine Q_rndN ?_ (by omega) ?_
  rotate_left
  ·rfl
  repeat (first | exact LeL.nil | refine LeL.cons2 ?_ (Le.undef _) | refine LeL.cons2 ?_ (Le.refl _) | refine LeL.cons2 ?_ (Le.sl _) | refine LeL.cons2 ?_ (Le.eq (by first | rfl | exact congrArg _ (by omega))) | refine LeL.cons2 ?_ (Le.eq ?_))
 ·obtain rfl : i = m := by omega
  have hb0 : level0 P i = (bst P 0).2 := by show _ = level0 P (nL P.length); rw [hmn]
  have hb1 : leavesX P i = bstX P 0 := by show _ = leavesX P (nL P.length); rw [hmn]
  repeat' (first | (show Ev _ _ _ _; first | refine Ev_seq ?_ | refine W_reg ?_ | refine Ev_block ?_ | refine W_ifN ?_ | refine Ev_exit ?_) | (show EvD _ _ [] _ _ _; refine W_nil ?_) | (show EvD _ _ (_ :: _) _ _ _; first | refine W_run tok ?_ ?_ (by simp (maxSteps := 1000000) (disch := omega) only [go_sem, wrap_i64_id, hpl]; with_reducible exact rfl)) | refine Q_thenN ?_ | refine Q_thenE ?_ | refine Q_blkE ?_ | refine Q_rndE ?_ | fail)
  all_goals (try exact sd)
  all_goals (try refine F_done ?_)
  refine W_frzC (σ.rows.length + 1) ?_ (hs := by simp (disch := omega) only [prtsD_len, level0_len, frzAt, frzAtL, if_pos, if_neg, and_self, if_true]; exact rfl)
  rw [hb0, hb1]
  obtain ⟨R, hR⟩ : ∃ R, R = rdC i := ⟨_, rfl⟩
  have hR4 : R ≤ 4 := hR ▸ rdC_le i
  have hend : lvN i R ≤ 1 := hR ▸ rdC_end hn2
  rw [← hR]
  refine Ev_lp (R) (fun r => [(4, .row σ.rows.length (sumL i r)), (5, .sl (prtsD (bst P r).2))]) (fun r => ⟨σ.rows ++ [some ⟨bstX P r, 42, 3⟩, none], σ.boxes, σ.maps⟩) [8, 10, 11, 12, 13, 53, 54, 55, 56, 57, 58, 59, 60, 61, 62, 63, 64, 65, 66, 67, 68, 69, 70, 71, 72, 73, 74, 75, 76, 77, 78, 79, 80, 81, 82, 83, 84, 85, 86, 87, 88, 89, 90, 91, 92, 93, 94, 95, 96, 97, 98, 99, 100, 101, 102, 103] ?_ (by simp) (fun r hi => ?_)
  ·exact le1
  have hlv : (bst P r).2.length = lvN i r := by rw [bst_len, hmn]
  have hal : (bst P r).1.length = sumL i r := by rw [bst_all, hmn]
  have hxl : (bstX P r).length = sumL i r := by rw [bstX_len, hal]
  have hlv6 := lvN_le hn2 r
  have hsl6 := sumL_le hn2 r
  have hpl2 := prtsD_len (bst P r).2
  rw [hlv] at hpl2
  by_cases hr' : r < R
  ·have hg1 : 1 < lvN i r := rdC_lt (hR ▸ hr')
   have hgl := gplP_len (bst P r).2
   rw [hlv] at hgl
   obtain ⟨k, hk⟩ : ∃ k, k = pcM (lvN i r) 8 := ⟨_, rfl⟩
   have hk6 : k ≤ 600 := by rw [hk]; unfold pcM; omega
   rw [← hk] at hgl
   repeat' (first | (show Ev _ _ _ _; first | refine Ev_seq ?_ | refine W_reg ?_ | refine Ev_block ?_ | refine W_ifY ?_ | refine Ev_skip ?_) | (show EvD _ _ [] _ _ _; refine W_nil ?_) | (show EvD _ _ (_ :: _) _ _ _; first | refine W_run tok ?_ ?_ (by simp (maxSteps := 1000000) (disch := omega) only [go_sem, wrap_i64_id, hlv, hpl2, hgl]; with_reducible exact rfl) | refine W_callee ?_) | (show EvC _ _ _ _ _ _ _ _ _; refine W_con ?_ ?_) | refine Q_thenN ?_ | fail)
   all_goals (try exact sd)
   all_goals (try refine F_done ?_)
   refine Ev_seed 8 80 2 rfl (by decide) (by simp only [List.set_cons_succ, List.set_cons_zero]; exact rfl) ?_
   refine Ev_lp (k) (fun g => [(4, .row σ.rows.length (sumL i r + g)), (8, .row (σ.rows.length + 2) g), (59, i64 g)]) (fun g => ⟨σ.rows ++ [some ⟨bstX P r ++ nodesGX (bst P r).2 g, 42, 3⟩, none, some ⟨prtsD (partsG (sumL i r) (bst P r).2 g), 80, 2⟩], σ.boxes, σ.maps⟩) [10, 11, 12, 13, 60, 61, 62, 63, 64, 65, 66, 67, 68, 69, 70, 71, 72, 73, 74, 75, 76, 77, 78, 79, 80, 81, 82, 83, 84, 85, 86, 87, 88, 89, 90, 91, 92, 93, 94, 95, 96, 97, 98, 99, 100, 101, 102] ?_ (by simp [nodesGX, partsG, prtsD]) (fun g hi => ?_)
   ·exact le1
   by_cases hg' : g < k
   ·have hgk : g < pcM (bst P r).2.length 8 := by rw [hlv, ← hk]; exact hg'
    obtain ⟨q1, q2⟩ := grp_len (by rw [hlv]; exact hg1) hgk
    have hg : (gpl (prtsD (bst P r).2)).getD g .undef = .sl (prtsD (grp (bst P r).2 g)) := by
     rw [← pcG_grp, List.getD_eq_getElem?_getD, gpl_get (by rw [prtsD_len]; exact hgk)]; rfl
    have hsn1 := partsG_snoc (sumL i r) (bst P r).2 g
    have hsn2 := nodesGX_snoc (bst P r).2 g
    have hx1 := nodesGX_len (bst P r).2 g
    have hx2 := partsG_len (sumL i r) (bst P r).2 g
    obtain ⟨q, hq⟩ : ∃ q, q = grp (bst P r).2 g := ⟨_, rfl⟩
    rw [← hq] at q1 q2 hg hsn1 hsn2
    unfold innX at hsn2
    have hql := prtsD_len q
    repeat' (first | (show Ev _ _ _ _; first | refine Ev_seq ?_ | refine W_reg ?_ | refine Ev_block ?_ | refine W_ifY ?_ | refine Ev_skip ?_) | (show EvD _ _ [] _ _ _; refine W_nil ?_) | (show EvD _ _ (_ :: _) _ _ _; first | refine W_run tok ?_ ?_ (by simp (maxSteps := 1000000) (disch := omega) only [go_sem, wrap_i64_id, hlv, hpl2, hgl, hg, hql]; with_reducible exact rfl)) | refine Q_thenN ?_ | fail)
    all_goals (try exact sd)
    all_goals (try refine F_done ?_)
    refine Ev_seedB σ.boxes.length 1 9 1 (by (try simp only [app_get, app_get0, List.getElem?_cons_succ, List.getElem?_cons_zero]) <;> exact rfl) (by (try simp only [List.getElem?_cons_succ, List.getElem?_cons_zero]) <;> exact rfl) (by decide) (by (try simp only [app_len, List.length_cons, List.length_nil, Nat.zero_add, Nat.reduceAdd, app_set, app_set0, List.set_cons_succ, List.set_cons_zero]) <;> exact rfl) (by (try simp only [List.append_assoc, List.cons_append, List.nil_append]) <;> exact rfl) ?_
    refine Ev_seedB σ.boxes.length 2 3 1 (by (try simp only [app_get, app_get0, List.getElem?_cons_succ, List.getElem?_cons_zero]) <;> exact rfl) (by (try simp only [List.getElem?_cons_succ, List.getElem?_cons_zero]) <;> exact rfl) (by decide) (by (try simp only [app_len, List.length_cons, List.length_nil, Nat.zero_add, Nat.reduceAdd, app_set, app_set0, List.set_cons_succ, List.set_cons_zero]) <;> exact rfl) (by (try simp only [List.append_assoc, List.cons_append, List.nil_append]) <;> exact rfl) ?_
    refine Ev_lp (q.length) (fun j => [(66, i64 j)]) (fun j => ⟨σ.rows ++ [some ⟨bstX P r ++ nodesGX (bst P r).2 g, 42, 3⟩, none, some ⟨prtsD (partsG (sumL i r) (bst P r).2 g), 80, 2⟩, some ⟨strsD (keysG (q.take j)), 9, 1⟩, some ⟨kidsD (kidsG (q.take j)), 3, 1⟩], σ.boxes ++ [some ⟨42, [.slt [], .row (σ.rows.length + 3) (j - 1), .row (σ.rows.length + 4) j]⟩], σ.maps⟩) [12, 13, 67, 68, 69, 70, 71, 72, 73, 74, 75, 76, 77, 78, 79, 80, 81, 82, 83, 84, 85, 86, 87] ?_ (by simp [keysG, kidsG, strsD, kidsD]) (fun j hi => ?_)
    ·exact le1
    by_cases hj' : j < q.length
    ·have hgj := prtsD_get hj'
     have hks := kids_snoc hj'
     have hkl : (kidsG (q.take j)).length = j := by rw [kidsG_len, List.length_take]; omega
     have hyl : (keysG (q.take j)).length = j - 1 := by rw [keysG_len, List.length_take]; omega
     have hkl2 := kidsD_len (kidsG (q.take j))
     have hyl2 := strsD_len (keysG (q.take j))
     rw [hkl] at hkl2
     rw [hyl] at hyl2
     have hkl' : (kidsG (q.take (j + 1))).length = j + 1 := by rw [kidsG_len, List.length_take]; omega
     have hyl' : (keysG (q.take (j + 1))).length = j := by rw [keysG_len, List.length_take]; omega
     rcases j with _ | j
     ·have hk1 : keysG (q.take (0 + 1)) = [] := keysG_one q
      have hk2 : keysG [] = [] := rfl
      rw [List.take_zero] at hks hkl hyl hkl2 hyl2
      repeat' (first | (show Ev _ _ _ _; first | refine Ev_seq ?_ | refine W_reg ?_ | refine Ev_block ?_ | refine W_ifY ?_ | refine W_ifN ?_ | refine Ev_skip ?_) | (show EvD _ _ [] _ _ _; refine W_nil ?_) | (show EvD _ _ (_ :: _) _ _ _; first | refine W_run tok ?_ ?_ (by simp (maxSteps := 1000000) (disch := omega) only [go_sem, wrap_i64_id, hql, hgj, hks, hkl2]; with_reducible exact rfl)) | refine Q_thenN ?_ | refine Q_blkN ?_ | fail)
      all_goals (try exact sd)
      all_goals (try refine F_done ?_)
      ·refine Q_rndC (Rb := σ.rows) (A := σ.boxes) (Mb := σ.maps) (R := ((fun j => [some ⟨bstX P r ++ nodesGX (bst P r).2 g, 42, 3⟩, none, some ⟨prtsD (partsG (sumL i r) (bst P r).2 g), 80, 2⟩, some ⟨strsD (keysG (q.take j)), 9, 1⟩, some ⟨kidsD (kidsG (q.take j)), 3, 1⟩]) (0))) (R' := ((fun j => [some ⟨bstX P r ++ nodesGX (bst P r).2 g, 42, 3⟩, none, some ⟨prtsD (partsG (sumL i r) (bst P r).2 g), 80, 2⟩, some ⟨strsD (keysG (q.take j)), 9, 1⟩, some ⟨kidsD (kidsG (q.take j)), 3, 1⟩]) (0 + 1))) (B := ((fun j => [some ⟨42, [.slt [], .row (σ.rows.length + 3) (j - 1), .row (σ.rows.length + 4) j]⟩]) (0))) (B' := ((fun j => [some ⟨42, [.slt [], .row (σ.rows.length + 3) (j - 1), .row (σ.rows.length + 4) j]⟩]) (0 + 1))) (M := []) (M' := []) ?_ (by omega) (by first | rfl | simp only [List.append_nil]) (by first | rfl | simp only [List.append_nil]) (by first | ((try simp only [List.append_nil, List.cons_append, List.nil_append, List.append_assoc, hk1, hk2, hks]) <;> exact rfl) | exact (List.append_nil _).symm) (by first | ((try simp only [List.append_nil, List.cons_append, List.nil_append, List.append_assoc, hk1, hk2, hks]) <;> exact rfl) | exact (List.append_nil _).symm) (by first | ((try simp only [List.append_nil, List.cons_append, List.nil_append, List.append_assoc, hk1, hk2, hks]) <;> exact rfl) | exact (List.append_nil _).symm) (by simp) (by simp) (by simp) (by simp [nameds, DV.named, bytes_named, nameds_append, strsD_named, kidsD_named, bstX_named, nodesGX_named, prtsD_named, pcs_named, gpl_named, pairsD_named] <;> omega) (by repeat (first | exact allN_nil _ | refine allN_none ?_ | refine allN_some (by first | exact bytes_named _ _ _ _ | (simp [nameds, DV.named, bytes_named, nameds_append, strsD_named, kidsD_named, bstX_named, nodesGX_named, prtsD_named, pcs_named, gpl_named, pairsD_named] <;> omega)) ?_)) (by repeat (first | exact allN_nil _ | refine allN_none ?_ | refine allN_some (by first | exact bytes_named _ _ _ _ | (simp [nameds, DV.named, bytes_named, nameds_append, strsD_named, kidsD_named, bstX_named, nodesGX_named, prtsD_named, pcs_named, gpl_named, pairsD_named] <;> omega)) ?_)) (by simp)
       repeat (first | exact LeL.nil | refine LeL.cons2 ?_ (Le.undef _) | refine LeL.cons2 ?_ (Le.refl _) | refine LeL.cons2 ?_ (Le.sl _) | refine LeL.cons2 ?_ (Le.eq (by first | rfl | exact congrArg _ (by omega))) | refine LeL.cons2 ?_ (Le.eq ?_))
      all_goals first | (rw [hkl]; exact ⟨rfl, rfl⟩) | exact hkl | exact hkl'
     ·have hys := keys_snoc hj'
      repeat' (first | (show Ev _ _ _ _; first | refine Ev_seq ?_ | refine W_reg ?_ | refine Ev_block ?_ | refine W_ifY ?_ | refine Ev_skip ?_) | (show EvD _ _ [] _ _ _; refine W_nil ?_) | (show EvD _ _ (_ :: _) _ _ _; first | refine W_run tok ?_ ?_ (by simp (maxSteps := 1000000) (disch := omega) only [go_sem, wrap_i64_id, hql, hgj, hks, hys, hkl2, hyl2]; with_reducible exact rfl)) | refine Q_thenN ?_ | refine Q_blkN ?_ | fail)
      all_goals (try exact sd)
      all_goals (try refine F_done ?_)
      ·refine Q_rndC (Rb := σ.rows) (A := σ.boxes) (Mb := σ.maps) (R := ((fun j => [some ⟨bstX P r ++ nodesGX (bst P r).2 g, 42, 3⟩, none, some ⟨prtsD (partsG (sumL i r) (bst P r).2 g), 80, 2⟩, some ⟨strsD (keysG (q.take j)), 9, 1⟩, some ⟨kidsD (kidsG (q.take j)), 3, 1⟩]) (j + 1))) (R' := ((fun j => [some ⟨bstX P r ++ nodesGX (bst P r).2 g, 42, 3⟩, none, some ⟨prtsD (partsG (sumL i r) (bst P r).2 g), 80, 2⟩, some ⟨strsD (keysG (q.take j)), 9, 1⟩, some ⟨kidsD (kidsG (q.take j)), 3, 1⟩]) (j + 1 + 1))) (B := ((fun j => [some ⟨42, [.slt [], .row (σ.rows.length + 3) (j - 1), .row (σ.rows.length + 4) j]⟩]) (j + 1))) (B' := ((fun j => [some ⟨42, [.slt [], .row (σ.rows.length + 3) (j - 1), .row (σ.rows.length + 4) j]⟩]) (j + 1 + 1))) (M := []) (M' := []) ?_ (by omega) (by first | rfl | simp only [List.append_nil]) (by first | rfl | simp only [List.append_nil]) (by first | ((try simp only [List.append_nil, List.cons_append, List.nil_append, List.append_assoc]) <;> exact rfl) | exact (List.append_nil _).symm) (by first | ((try simp only [List.append_nil, List.cons_append, List.nil_append, List.append_assoc]) <;> exact rfl) | exact (List.append_nil _).symm) (by first | ((try simp only [List.append_nil, List.cons_append, List.nil_append, List.append_assoc]) <;> exact rfl) | exact (List.append_nil _).symm) (by simp) (by simp) (by simp) (by simp [nameds, DV.named, bytes_named, nameds_append, strsD_named, kidsD_named, bstX_named, nodesGX_named, prtsD_named, pcs_named, gpl_named, pairsD_named] <;> omega) (by repeat (first | exact allN_nil _ | refine allN_none ?_ | refine allN_some (by first | exact bytes_named _ _ _ _ | (simp [nameds, DV.named, bytes_named, nameds_append, strsD_named, kidsD_named, bstX_named, nodesGX_named, prtsD_named, pcs_named, gpl_named, pairsD_named] <;> omega)) ?_)) (by repeat (first | exact allN_nil _ | refine allN_none ?_ | refine allN_some (by first | exact bytes_named _ _ _ _ | (simp [nameds, DV.named, bytes_named, nameds_append, strsD_named, kidsD_named, bstX_named, nodesGX_named, prtsD_named, pcs_named, gpl_named, pairsD_named] <;> omega)) ?_)) (by simp)
       repeat (first | exact LeL.nil | refine LeL.cons2 ?_ (Le.undef _) | refine LeL.cons2 ?_ (Le.refl _) | refine LeL.cons2 ?_ (Le.sl _) | refine LeL.cons2 ?_ (Le.eq (by first | rfl | exact congrArg _ (by omega))) | refine LeL.cons2 ?_ (Le.eq ?_))
      all_goals first | exact ⟨by omega, hyl'⟩ | exact ⟨by omega, hkl'⟩
    ·obtain rfl : j = q.length := by omega
     rw [List.take_length]
     have hkl := kidsG_len q
     have hyl := keysG_len q
     have hkl2 := kidsD_len (kidsG q)
     have hyl2 := strsD_len (keysG q)
     rw [hkl] at hkl2
     rw [hyl] at hyl2
     refine W_frzC (σ.rows.length + 3) ?_ (hs := by simp (disch := omega) only [hyl2, frzAt, frzAtL, if_pos, if_neg, and_self, if_true]; exact rfl) (hB := by simp (disch := omega) only [frzBox, List.map_cons, List.map_nil, hyl2, frzAt, frzAtL, if_pos, if_neg, and_self, if_true]; exact rfl)
     refine W_frzC (σ.rows.length + 4) ?_ (hs := by simp (disch := omega) only [hkl2, frzAt, frzAtL, if_pos, if_neg, and_self, if_true]; exact rfl) (hB := by simp (disch := omega) only [frzBox, List.map_cons, List.map_nil, hkl2, frzAt, frzAtL, if_pos, if_neg, and_self, if_true]; exact rfl)
     have hgz := prtsD_get (P := q) (i := 0) (by omega)
     repeat' (first | (show Ev _ _ _ _; first | refine Ev_seq ?_ | refine W_reg ?_ | refine W_ifN ?_ | refine Ev_exit ?_) | (show EvD _ _ [] _ _ _; refine W_nil ?_) | (show EvD _ _ (_ :: _) _ _ _; first | refine W_run tok ?_ ?_ (by simp (maxSteps := 1000000) (disch := omega) only [go_sem, wrap_i64_id, hql, hgz, hsn1, hsn2]; with_reducible exact rfl)) | refine Q_thenN ?_ | refine Q_thenE ?_ | refine Q_blkN ?_ | refine Q_blkE ?_ | refine Q_rndE ?_ | fail)
     all_goals (try exact sd)
     all_goals (try refine F_done ?_)
     refine Q_rndC (Rb := σ.rows) (A := σ.boxes) (Mb := σ.maps) (R := ((fun g => [some ⟨bstX P r ++ nodesGX (bst P r).2 g, 42, 3⟩, none, some ⟨prtsD (partsG (sumL i r) (bst P r).2 g), 80, 2⟩]) (g))) (R' := ((fun g => [some ⟨bstX P r ++ nodesGX (bst P r).2 g, 42, 3⟩, none, some ⟨prtsD (partsG (sumL i r) (bst P r).2 g), 80, 2⟩]) (g + 1))) (B := []) (B' := []) (M := []) (M' := []) ?_ (by omega) (by first | rfl | simp only [List.append_nil]) (by first | rfl | simp only [List.append_nil]) (by first | ((try simp only [List.append_nil, List.cons_append, List.nil_append, List.append_assoc]) <;> exact rfl) | exact (List.append_nil _).symm) (by first | ((try simp only [List.append_nil, List.cons_append, List.nil_append, List.append_assoc]) <;> exact rfl) | exact (List.append_nil _).symm) (by first | ((try simp only [List.append_nil, List.cons_append, List.nil_append, List.append_assoc]) <;> exact rfl) | exact (List.append_nil _).symm) (by simp) (by simp) (by simp) (by simp [nameds, DV.named, bytes_named, nameds_append, strsD_named, kidsD_named, bstX_named, nodesGX_named, prtsD_named, pcs_named, gpl_named, pairsD_named] <;> omega) (by repeat (first | exact allN_nil _ | refine allN_none ?_ | refine allN_some (by first | exact bytes_named _ _ _ _ | (simp [nameds, DV.named, bytes_named, nameds_append, strsD_named, kidsD_named, bstX_named, nodesGX_named, prtsD_named, pcs_named, gpl_named, pairsD_named] <;> omega)) ?_)) (by repeat (first | exact allN_nil _ | refine allN_none ?_ | refine allN_some (by first | exact bytes_named _ _ _ _ | (simp [nameds, DV.named, bytes_named, nameds_append, strsD_named, kidsD_named, bstX_named, nodesGX_named, prtsD_named, pcs_named, gpl_named, pairsD_named] <;> omega)) ?_)) (by simp)
     repeat (first | exact LeL.nil | refine LeL.cons2 ?_ (Le.undef _) | refine LeL.cons2 ?_ (Le.refl _) | refine LeL.cons2 ?_ (Le.sl _) | refine LeL.cons2 ?_ (Le.eq (by first | rfl | exact congrArg _ (by omega))) | refine LeL.cons2 ?_ (Le.eq ?_))
   ·obtain rfl : g = k := by omega
    have hz1 : bstX P (r + 1) = bstX P r ++ nodesGX (bst P r).2 g := by
     show _ ++ nodesGX _ (pcM (bst P r).2.length 8) = _
     rw [hlv, ← hk]
    have hz2 : (bst P (r + 1)).2 = partsG (sumL i r) (bst P r).2 g := by
     show partsG (bst P r).1.length _ (pcM (bst P r).2.length 8) = _
     rw [hlv, hal, ← hk]
    have hz3 : sumL i (r + 1) = sumL i r + g := by
     show _ + lvN i (r + 1) = _
     rw [hk]; rfl
    have hx2 := partsG_len (sumL i r) (bst P r).2 g
    have hx3 := prtsD_len (partsG (sumL i r) (bst P r).2 g)
    rw [hx2] at hx3
    refine W_frzC (σ.rows.length + 2) ?_ (hs := by simp (disch := omega) only [hx3, frzAt, frzAtL, if_pos, if_neg, and_self, if_true]; exact rfl)
    repeat' (first | (show Ev _ _ _ _; first | refine Ev_seq ?_ | refine W_reg ?_ | refine W_ifN ?_ | refine Ev_exit ?_) | (show EvD _ _ [] _ _ _; refine W_nil ?_) | (show EvD _ _ (_ :: _) _ _ _; first | refine W_run tok ?_ ?_ (by simp (maxSteps := 1000000) (disch := omega) only [go_sem, wrap_i64_id, hgl]; with_reducible exact rfl)) | refine Q_thenN ?_ | refine Q_thenE ?_ | refine Q_blkN ?_ | refine Q_blkE ?_ | refine Q_rndE ?_ | fail)
    all_goals (try exact sd)
    all_goals (try refine F_done ?_)
    refine Q_rndC (Rb := σ.rows) (A := σ.boxes) (Mb := σ.maps) (R := ((fun r => [some ⟨bstX P r, 42, 3⟩, none]) (r))) (R' := ((fun r => [some ⟨bstX P r, 42, 3⟩, none]) (r + 1))) (B := []) (B' := []) (M := []) (M' := []) ?_ (by omega) (by first | rfl | simp only [List.append_nil]) (by first | rfl | simp only [List.append_nil]) (by first | ((try simp only [List.append_nil, List.cons_append, List.nil_append, List.append_assoc, hz1]) <;> exact rfl) | exact (List.append_nil _).symm) (by first | ((try simp only [List.append_nil, List.cons_append, List.nil_append, List.append_assoc, hz1]) <;> exact rfl) | exact (List.append_nil _).symm) (by first | ((try simp only [List.append_nil, List.cons_append, List.nil_append, List.append_assoc, hz1]) <;> exact rfl) | exact (List.append_nil _).symm) (by simp) (by simp) (by simp) (by simp [nameds, DV.named, bytes_named, nameds_append, strsD_named, kidsD_named, bstX_named, nodesGX_named, prtsD_named, pcs_named, gpl_named, pairsD_named] <;> omega) (by repeat (first | exact allN_nil _ | refine allN_none ?_ | refine allN_some (by first | exact bytes_named _ _ _ _ | (simp [nameds, DV.named, bytes_named, nameds_append, strsD_named, kidsD_named, bstX_named, nodesGX_named, prtsD_named, pcs_named, gpl_named, pairsD_named] <;> omega)) ?_)) (by repeat (first | exact allN_nil _ | refine allN_none ?_ | refine allN_some (by first | exact bytes_named _ _ _ _ | (simp [nameds, DV.named, bytes_named, nameds_append, strsD_named, kidsD_named, bstX_named, nodesGX_named, prtsD_named, pcs_named, gpl_named, pairsD_named] <;> omega)) ?_)) (by simp)
    repeat (first | exact LeL.nil | refine LeL.cons2 ?_ (Le.undef _) | refine LeL.cons2 ?_ (Le.refl _) | refine LeL.cons2 ?_ (Le.sl _) | refine LeL.cons2 ?_ (Le.eq (by first | rfl | exact congrArg _ (by omega))) | refine LeL.cons2 ?_ (Le.eq ?_))
    all_goals first | rw [hz2] | rw [hz3] | trace_state
  ·obtain rfl : r = R := by omega
   repeat' (first | (show Ev _ _ _ _; first | refine Ev_seq ?_ | refine W_reg ?_ | refine W_ifN ?_ | refine Ev_exit ?_ | refine Ev_ret ?_) | (show EvD _ _ [] _ _ _; refine W_nil ?_) | (show EvD _ _ (_ :: _) _ _ _; first | refine W_run tok ?_ ?_ (by simp (maxSteps := 1000000) (disch := omega) only [go_sem, wrap_i64_id, hlv, hpl2]; with_reducible exact rfl)) | (show RetQ _ _ (RP _ _) _ _; refine R_ret ?_ ?_) | (show FrzTo _ _ _ _; refine F_row ?_) | refine Q_thenN ?_ | refine Q_thenE ?_ | refine Q_blkE ?_ | refine Q_rndE ?_ | fail)
   all_goals (try exact sd)
   all_goals (try refine F_done ?_)
   all_goals rfl
instance i_tree_Build (P : List PairB) : Con Try.prog 13 [.sl (pairsD P)] (P.length ≤ 3000) (.tup [.sl (bldX P).1, .int .i64 (bldX P).2]) := ⟨c_tree_Build P ⟩
end Go.Val.Ytgjmpefhjdgkoaa
