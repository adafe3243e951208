/- Chapter 09: a level's parts in pieces, walked (printed by mk_n09b.py). -/
import Derived.Test.YtgjmpefhjdgkoaaN09a
namespace Go.Val.Ytgjmpefhjdgkoaa
open Go Go.Val Go.Proofs Go.Proofs.Ytgjmpefhjdgkoaa
attribute [local irreducible] Ev EvD EvC thenQ blockQ RoundG RetQ
set_option maxRecDepth 100000
set_option maxHeartbeats 4000000
set_option linter.unusedSimpArgs false
set_option linter.unusedVariables false
abbrev PartB := Nat × List UInt8
def prtD (p : PartB) : DV := .agg [.int .i64 (p.1 : Int), .str p.2]
def prtsD (P : List PartB) : List DV := P.map prtD
theorem prtsD_len (P : List PartB) : (prtsD P).length = P.length := by simp [prtsD]
theorem prtsD_two (P : List PartB) : (∀ x ∈ prtsD P, x.cells.length = 2) = True := by
 simp only [eq_iff_iff, iff_true]
 intro x hx
 obtain ⟨p, _, rfl⟩ := List.mem_map.1 hx
 rfl
theorem prtsD_named (r b m : Nat) (P : List PartB) : nameds r b m (prtsD P) = true := by
 rw [nameds_iff]; intro x hx; obtain ⟨p, _, rfl⟩ := List.mem_map.1 hx; rfl
theorem prtsD_get {P : List PartB} {i : Nat} (h : i < P.length) : (prtsD P).getD i .undef = .agg [.int .i64 ((P.getD i (0, [])).1 : Int), .str (P.getD i (0, [])).2] := by
 simp [prtsD, List.getD_eq_getElem?_getD, List.getElem?_map, List.getElem?_eq_getElem h, prtD]
attribute [go_sem] prtsD_len prtsD_two prtsD_named
theorem c_slices_Chunk_s_tree_part_tree_part (P : List PartB) (n : Int) (hC : 1 ≤ n) : Pure Try.prog n_slices_Chunk_s_tree_part_tree_part [.sl (prtsD P), .int .i64 n] (.fn (.func 93) [] [.cp [.sl (prtsD P)], .cp [.int .i64 n]]) := by
 refine Pure.go tok (rs := [.tmp 4]) [.sl (prtsD P), .int .i64 n, .undef, .undef, .undef, .undef, .undef, .undef, .undef] Try.func79 (fun σ => ?_)
 repeat' (first | (show Ev _ _ _ _; first | refine Ev_seq ?_ | refine W_reg ?_ | refine W_ifN ?_ | refine Ev_skip ?_) | (show EvD _ _ [] _ _ _; refine W_nil ?_) | (show EvD _ _ (_ :: _) _ _ _; first | refine W_run tok ?_ ?_ (by simp (maxSteps := 1000000) (disch := omega) only [go_sem, wrap_i64_id]; with_reducible exact rfl)) | refine Q_thenN ?_ | fail)
 all_goals (try exact sd)
 all_goals (try refine F_done ?_)
 refine Ev_fixS (σ.boxes.length + 1) (by (try simp only [app_get, app_get0, List.getElem?_cons_succ, List.getElem?_cons_zero]) <;> exact rfl) (by (try simp (disch := omega) only [List.map_cons, List.map_nil, bfz, bfz1, if_true, if_pos, if_neg, List.drop_zero]) <;> exact rfl) (by (try simp only [app_set, app_set0, List.set_cons_succ, List.set_cons_zero]) <;> exact rfl) ?_
 refine Ev_fixS σ.boxes.length (by (try simp only [app_get, app_get0, List.getElem?_cons_succ, List.getElem?_cons_zero]) <;> exact rfl) (by (try simp (disch := omega) only [List.map_cons, List.map_nil, bfz, bfz1, if_true, if_pos, if_neg, List.drop_zero]) <;> exact rfl) (by (try simp only [app_set, app_set0, List.set_cons_succ, List.set_cons_zero]) <;> exact rfl) ?_
 repeat' (first | (show Ev _ _ _ _; refine Ev_ret ?_) | (show RetQ _ _ (RP _ _) _ _; refine R_ret ?_ ?_) | fail)
 all_goals (try exact sd)
 all_goals (try refine F_done ?_)
 all_goals rfl
instance i_slices_Chunk_s_tree_part_tree_part (P : List PartB) (n : Int) : Con Try.prog 79 [.sl (prtsD P), .int .i64 n] (1 ≤ n) (.fn (.func 93) [] [.cp [.sl (prtsD P)], .cp [.int .i64 n]]) := ⟨c_slices_Chunk_s_tree_part_tree_part P  n ⟩
theorem it_Chunk_part (xs : List DV) (n m : Nat) (hn : 1 ≤ n) (hn2 : n ≤ 1000) (hxs : xs.length < 1099511627776) (h2 : ∀ x ∈ xs, x.cells.length = 2) (hm1 : ∀ i, i < m → n * i < xs.length) (hm2 : xs.length ≤ n * m) (S : Nat → Store) (l : Nat) (p : Tmp) (assign body : Code) (own : List DV)
  (hR : ∀ i, i < m → RoundD Try.prog p assign body own (.sl (pcN xs n i)) (S i) (S (i + 1))) :
  DoesB (LoopB l p assign body own) Try.prog 93 [.fn (.yield l) [] [], .cp [.sl xs], .cp [.int .i64 n]] (S 0) (fun _ τ => τ = S m) := by
 refine DoesB_body tok Try.func93 rfl (fun _ _ _ h => h.up) ?_
 refine EvI_seqL ?_
 show Ev _ _ ⟨[.fn (.yield l) [] [], .cp [.sl xs], .cp [.int .i64 n], .undef, .undef, .undef, .undef, .undef, .undef, .undef, .undef, .undef, .undef, .undef, .undef, .undef, .undef, .undef, .undef, .undef, .undef, .undef, .undef, .undef, .undef, .undef, .undef, .undef, .undef, .undef, .undef], S 0⟩ _
 repeat' (first | (show Ev _ _ _ _; refine W_reg ?_) | (show EvD _ _ [] _ _ _; refine W_nil ?_) | (show EvD _ _ (_ :: _) _ _ _; refine W_run tok ?_ ?_) | fail)
 all_goals (try exact sd)
 all_goals (try refine F_done ?_)
 refine ⟨rfl, ?_⟩
 refine EvI_block ?_
 refine EvI_lp (fun i => [.fn (.yield l) [] [], .cp [.sl xs], .cp [.int .i64 n], .undef, .int .i64 ((n * i : Nat) : Int), .undef, .undef, .undef, .undef, .undef, .undef, .undef, .undef, .undef, .undef, .undef, .undef, .undef, .undef, .undef, .undef, .undef, .undef, .undef, .undef, .undef, .undef, .undef, .undef, .undef, .undef]) S m ?_ rfl (fun i hi => ?_)
 ·repeat (first | exact LeL.nil | refine LeL.cons2 ?_ (Le.refl _) | refine LeL.cons2 ?_ (Le.eq (by simp)))
 by_cases hi' : i < m
 ·have h1 := hm1 i hi'
  have fa : decide (((n * i : Nat) : Int) < (xs.length : Int)) = true := decide_eq_true (by omega)
  have hb : n * i ≤ 1099511627776 := by omega
  refine EvI_seq (EvI_seqL ?_)
  repeat' (first | (show Ev _ _ _ _; refine W_reg ?_) | (show EvD _ _ [] _ _ _; refine W_nil ?_) | (show EvD _ _ (_ :: _) _ _ _; first | refine W_run tok ?_ ?_ (by simp (maxSteps := 1000000) (disch := omega) only [go_sem, wrap_i64_id]; with_reducible exact rfl)) | fail)
  all_goals (try exact sd)
  all_goals (try refine F_done ?_)
  refine ⟨rfl, ?_⟩
  refine EvI_true (congrArg DV.bool fa) (EvI_skip ?_)
  obtain ⟨k, hk⟩ : ∃ k, k = min n (xs.length - n * i) := ⟨_, rfl⟩
  have he : (if (((xs.length - n * i : Nat) : Int)) < (n : Int) then (((xs.length - n * i : Nat) : Int)) else (n : Int)) = (k : Int) := by split <;> omega
  have e2 : (((n * i : Nat) : Int) + (k : Int)).toNat = n * i + k := by omega
  have hsl : List.drop (n * i) (List.take (n * i + k) xs) = pcN xs n i := by
   rw [pcN, List.drop_take, show n * i + k - n * i = k by omega]
   by_cases hkn : k = n
   ·rw [hkn]
   ·rw [List.take_of_length_le (i := n) (by rw [List.length_drop]; omega), List.take_of_length_le (by rw [List.length_drop]; omega)]
  refine EvI_seq (EvI_block (EvI_seqL ?_))
  repeat' (first | (show Ev _ (.region _ _ true) _ _; refine D_start [50, 51, 76, 78, 82, 90, 92] mix ?_) | (show DrD _ _ _ [] _ _ _ _; refine D_nil ?_; try dsimp only) | (show DrD _ (EB _ _) _ (_ :: _) _ _ _ _; first | refine D_runL tok ?_ ?_ (h := by intro R; simp (maxSteps := 1000000) (disch := omega) only [go_sem, wrap_i64_id, List.take_length, List.length_drop, he]; with_reducible exact rfl)) | fail)
  all_goals (try exact sd)
  all_goals (try refine F_done ?_)
  refine ⟨rfl, ?_⟩
  refine EvI_seq (EvI_reg (EvDI_cut wide_wide 10 ?_))
  repeat' (first | (show EvD _ _ [] _ _ _; refine W_nil ?_) | (show EvD _ _ (_ :: _) _ _ _; first | refine W_run tok ?_ ?_ (by simp (maxSteps := 1000000) (disch := omega) only [go_sem, wrap_i64_id, List.take_length, he, e2, hsl]; with_reducible exact rfl)) | fail)
  all_goals (try exact sd)
  all_goals (try refine F_done ?_)
  refine ⟨rfl, ?_⟩
  refine EvDI_yield (hR i hi') (EvDI_all wide_wide ?_)
  repeat' (first | (show EvD _ _ [] _ _ _; refine W_nil ?_) | (show EvD _ _ (_ :: _) _ _ _; refine W_run tok ?_ ?_) | fail)
  all_goals (try exact sd)
  all_goals (try refine F_done ?_)
  refine ⟨rfl, ?_⟩
  refine EvI_false rfl (EvI_skip (Q_blkN ?_))
  refine EvI_endL ?_
  repeat' (first | (show Ev _ _ _ _; refine W_reg ?_) | (show EvD _ _ [] _ _ _; refine W_nil ?_) | (show EvD _ _ (_ :: _) _ _ _; first | refine W_run tok ?_ ?_ (by simp (maxSteps := 1000000) (disch := omega) only [go_sem, wrap_i64_id]; with_reducible exact rfl)) | fail)
  all_goals (try exact sd)
  all_goals (try refine F_done ?_)
  refine ⟨rfl, hi', ?_, rfl⟩
  ·repeat (first | exact LeL.nil | refine LeL.cons2 ?_ (Le.undef _) | refine LeL.cons2 ?_ (Le.refl _) | refine LeL.cons2 ?_ (Le.eq (congrArg _ (by rw [Nat.mul_succ]; omega))))
  all_goals first | exact ⟨by omega, by omega, by omega, by omega, h2⟩ | exact ⟨by omega, by omega, h2⟩
 ·obtain rfl : i = m := by omega
  have fa : decide (((n * i : Nat) : Int) < (xs.length : Int)) = false := decide_eq_false (by omega)
  refine EvI_seq (EvI_seqL ?_)
  repeat' (first | (show Ev _ _ _ _; refine W_reg ?_) | (show EvD _ _ [] _ _ _; refine W_nil ?_) | (show EvD _ _ (_ :: _) _ _ _; first | refine W_run tok ?_ ?_ (by simp (maxSteps := 1000000) (disch := omega) only [go_sem, wrap_i64_id]; with_reducible exact rfl)) | fail)
  all_goals (try exact sd)
  all_goals (try refine F_done ?_)
  refine ⟨rfl, ?_⟩
  refine EvI_false (congrArg DV.bool fa) (EvI_exit ?_)
  refine Q_blkE ?_
  exact RetQ_none (R := fun _ τ => τ = S i) rfl
theorem pcsP_named (a b c : Nat) (P : List PartB) (n m : Nat) : nameds a b c (pcs (prtsD P) n m) = true := by
 rw [nameds_iff]
 intro x hx
 simp only [pcs, List.mem_map] at hx
 obtain ⟨i, _, rfl⟩ := hx
 simp only [DV.named]
 rw [nameds_iff]
 intro y hy
 have := prtsD_named a b c P
 rw [nameds_iff] at this
 exact this y (List.mem_of_mem_drop (List.mem_of_mem_take hy))
attribute [go_sem] pcsP_named
abbrev chunkP (xs : List DV) (n : Int) : DV := .fn (.func 93) [] [.cp [.sl xs], .cp [.int .i64 n]]
theorem c_slices_AppendSeq_s_s_tree_part_s_tree_part (P : List PartB) (n : Nat) (hC : 1 ≤ n ∧ n ≤ 1000 ∧ P.length < 1099511627776) : PureOwn Try.prog n_slices_AppendSeq_s_s_tree_part_s_tree_part [.slt [], chunkP (prtsD P) n] (pcs (prtsD P) n (pcM P.length n)) 76 1 := by
 refine PureOwn.go tok (rs := [.tmp 4]) [.slt [], chunkP (prtsD P) n, .undef, .undef, .undef, .undef, .undef, .undef, .undef, .undef, .undef, .undef, .undef] Try.func92 (fun σ => ?_)
 obtain ⟨h1, h2, h3⟩ := hC
 obtain ⟨m, hm⟩ : ∃ m, m = pcM P.length n := ⟨_, rfl⟩
 have h4 : ∀ i, i < m → n * i < P.length := fun i hi => pcM_lt h1 (hm ▸ hi)
 have h5 : P.length ≤ n * m := hm ▸ pcM_ge h1
 rw [← hm]
 repeat' (first | (show Ev _ _ _ _; first | refine Ev_seq ?_ | refine W_reg ?_ | refine Ev_block ?_) | (show EvD _ _ [] _ _ _; refine W_nil ?_) | (show EvD _ _ (_ :: _) _ _ _; refine W_run tok ?_ ?_) | refine Q_thenN ?_ | fail)
 all_goals (try exact sd)
 all_goals (try refine F_done ?_)
 refine Ev_seedB σ.boxes.length 0 76 1 (by (try simp only [app_get, app_get0, List.getElem?_cons_succ, List.getElem?_cons_zero]) <;> exact rfl) (by (try simp only [List.getElem?_cons_succ, List.getElem?_cons_zero]) <;> exact rfl) (by decide) (by (try simp only [app_len, List.length_cons, List.length_nil, Nat.zero_add, Nat.reduceAdd, app_set, app_set0, List.set_cons_succ, List.set_cons_zero]) <;> exact rfl) (by (try simp only [List.append_assoc, List.cons_append, List.nil_append]) <;> exact rfl) ?_
 refine Ev_range rfl at_slices_Chunk_s_tree_part_tree_part_1 (fun l => it_Chunk_part (prtsD P) n m h1 h2 (by rw [prtsD_len]; exact h3) (of_eq_true (prtsD_two P)) (by rw [prtsD_len]; exact h4) (by rw [prtsD_len]; exact h5) (fun i => ⟨σ.rows ++ [some ⟨pcs (prtsD P) n i, 76, 1⟩], σ.boxes ++ [some ⟨81, [.row σ.rows.length i]⟩], σ.maps⟩) l _ _ _ _ (fun i hi l' n' => ?_)) ?_
 ·simp only [List.set_cons_succ, List.set_cons_zero]
  refine EvI_reg ?_
  refine EvDI_all (wide_round _) ?_
  repeat' (first | (show EvD _ _ [] _ _ _; refine W_nil ?_) | (show EvD _ _ (_ :: _) _ _ _; refine W_run tok ?_ ?_) | fail)
  all_goals (try exact sd)
  all_goals (try refine F_done ?_)
  refine ⟨rfl, rfl, rfl, ?_⟩
  refine EvI_block ?_
  refine EvI_reg ?_
  refine EvDI_all (wide_round _) ?_
  have hl := pcs_len (prtsD P) n i
  have hi2 : i ≤ n * i := Nat.le_mul_of_pos_left i h1
  have hi3 := h4 i hi
  repeat' (first | (show EvD _ _ [] _ _ _; refine W_nil ?_) | (show EvD _ _ (_ :: _) _ _ _; first | refine W_run tok ?_ ?_ (by simp (maxSteps := 1000000) (disch := omega) only [go_sem, wrap_i64_id, hl]; with_reducible exact rfl)) | fail)
  all_goals (try exact sd)
  all_goals (try refine F_done ?_)
  refine ⟨rfl, Q_blkN ⟨rfl, ?_⟩⟩
  rw [← pcs_snoc]
  all_goals first | rfl | trace_state
 ·refine Q_blkN ?_
  repeat' (first | (show Ev _ _ _ _; first | refine Ev_seq ?_ | refine W_reg ?_ | refine Ev_ret ?_) | (show EvD _ _ [] _ _ _; refine W_nil ?_) | (show EvD _ _ (_ :: _) _ _ _; refine W_run tok ?_ ?_) | (show RetQ _ _ (RO _ _ _ _) _ _; refine R_own ?_ ?_) | refine Q_thenN ?_ | fail)
  all_goals (try exact sd)
  all_goals (try refine F_done ?_)
  all_goals rfl
instance i_slices_AppendSeq_s_s_tree_part_s_tree_part (P : List PartB) (n : Nat) : ConOwn Try.prog 92 [.slt [], chunkP (prtsD P) n] (1 ≤ n ∧ n ≤ 1000 ∧ P.length < 1099511627776) (pcs (prtsD P) n (pcM P.length n)) (76) (1) := ⟨c_slices_AppendSeq_s_s_tree_part_s_tree_part P  n ⟩
theorem c_slices_Collect_s_tree_part (P : List PartB) (n : Nat) (hC : 1 ≤ n ∧ n ≤ 1000 ∧ P.length < 1099511627776) : PureOwn Try.prog n_slices_Collect_s_tree_part [chunkP (prtsD P) n] (pcs (prtsD P) n (pcM P.length n)) 76 1 := by
 refine PureOwn.go tok (rs := [.tmp 2]) [chunkP (prtsD P) n, .undef, .undef, .undef, .undef] Try.func78 (fun σ => ?_)
 have hl := pcs_len (prtsD P) n (pcM P.length n)
 repeat' (first | (show Ev _ _ _ _; first | refine Ev_seq ?_ | refine W_reg ?_ | refine Ev_ret ?_) | (show EvD _ _ [] _ _ _; refine W_nil ?_) | (show EvD _ _ (_ :: _) _ _ _; first | refine W_run tok ?_ ?_ (by simp (maxSteps := 1000000) (disch := omega) only [go_sem, hl]; with_reducible exact rfl) | refine W_callee ?_) | (show EvC _ _ _ _ _ _ _ _ _; refine W_conOwn ?_ ?_) | (show RetQ _ _ (RO _ _ _ _) _ _; refine R_own ?_ ?_) | refine Q_thenN ?_ | fail)
 all_goals (try exact sd)
 all_goals (try refine F_done ?_)
 all_goals first | rfl | trace_state
instance i_slices_Collect_s_tree_part (P : List PartB) (n : Nat) : ConOwn Try.prog 78 [chunkP (prtsD P) n] (1 ≤ n ∧ n ≤ 1000 ∧ P.length < 1099511627776) (pcs (prtsD P) n (pcM P.length n)) (76) (1) := ⟨c_slices_Collect_s_tree_part P  n ⟩
def stG (c i : Nat) : Nat := if 8 * i + 1 = c ∧ 0 < i then c - 2 else min (8 * i) c
def pcG (xs : List DV) (i : Nat) : List DV := (xs.drop (stG xs.length i)).take (stG xs.length (i + 1) - stG xs.length i)
def gpl (xs : List DV) : List DV := (List.range (pcM xs.length 8)).map fun i => .sl (pcG xs i)
theorem pcs_get {xs : List DV} {n m i : Nat} (h : i < m) : (pcs xs n m)[i]? = some (.sl (pcN xs n i)) := by simp [pcs, List.getElem?_map, List.getElem?_range h]
theorem gpl_get {xs : List DV} {i : Nat} (h : i < pcM xs.length 8) : (gpl xs)[i]? = some (.sl (pcG xs i)) := by simp [gpl, List.getElem?_map, List.getElem?_range h]
theorem gpl_len (xs : List DV) : (gpl xs).length = pcM xs.length 8 := by simp [gpl]
theorem stG_mul {c i : Nat} (h1 : ¬ (8 * i + 1 = c ∧ 0 < i)) (h : 8 * i ≤ c) : stG c i = 8 * i := by unfold stG; rw [if_neg h1, Nat.min_eq_left h]
theorem stG_cut {c i : Nat} (h1 : 8 * i + 1 = c) (h : 0 < i) : stG c i = c - 2 := by unfold stG; rw [if_pos ⟨h1, h⟩]
theorem stG_end {c i : Nat} (h : c ≤ 8 * i) : stG c i = c := by unfold stG; rw [if_neg (by omega), Nat.min_eq_right h]
theorem pcG_plain {xs : List DV} {i : Nat} (h1 : ¬ (8 * i + 1 = xs.length ∧ 0 < i)) (h2 : ¬ 8 * (i + 1) + 1 = xs.length) (hi : 8 * i < xs.length) : pcG xs i = pcN xs 8 i := by
 unfold pcG pcN
 rw [stG_mul h1 (by omega)]
 by_cases h : 8 * (i + 1) ≤ xs.length
 ·rw [stG_mul (by omega) h, show 8 * (i + 1) - 8 * i = 8 by omega]
 ·rw [stG_end (by omega), List.take_of_length_le (by rw [List.length_drop]; omega), List.take_of_length_le (by rw [List.length_drop]; omega)]
theorem gpl_same {xs : List DV} {m : Nat} (hm : m = pcM xs.length 8) (h : ¬ (xs.length = 8 * (m - 1) + 1 ∧ 1 < m)) : pcs xs 8 m = gpl xs := by
 apply List.ext_getElem?
 intro i
 have h2 : xs.length ≤ 8 * m := hm ▸ pcM_ge (by omega)
 by_cases hi : i < m
 ·have h1 : 8 * i < xs.length := pcM_lt (by omega) (hm ▸ hi)
  have h3 : 8 * (m - 1) < xs.length := pcM_lt (by omega) (show m - 1 < pcM xs.length 8 by omega)
  have q1 : ¬ (8 * i + 1 = xs.length ∧ 0 < i) := fun e => h ⟨by omega, by omega⟩
  have q2 : ¬ 8 * (i + 1) + 1 = xs.length := fun e => h ⟨by omega, by omega⟩
  rw [pcs_get hi, gpl_get (hm ▸ hi), pcG_plain q1 q2 h1]
 ·rw [List.getElem?_eq_none (by rw [pcs_len]; omega), List.getElem?_eq_none (by rw [gpl_len, ← hm]; omega)]
theorem gpl_cut {xs : List DV} {m : Nat} (hm : m = pcM xs.length 8) (h : xs.length = 8 * (m - 1) + 1) (h1 : 1 < m) :
  ((pcs xs 8 m).set (m - 2) (.sl ((xs.drop (8 * (m - 2))).take (xs.length - 2 - 8 * (m - 2))))).set (m - 1) (.sl (xs.drop (xs.length - 2))) = gpl xs := by
 apply List.ext_getElem?
 intro i
 by_cases hi : i < m
 ·rw [gpl_get (hm ▸ hi)]
  by_cases e1 : i = m - 1
  ·have q : pcG xs i = xs.drop (xs.length - 2) := by
    unfold pcG
    rw [stG_cut (i := i) (by omega) (by omega), stG_end (by omega), List.take_of_length_le (by rw [List.length_drop]; omega)]
   rw [q, e1, List.getElem?_set_self (by simp [pcs_len]; omega)]
  ·rw [List.getElem?_set_ne (by omega)]
   by_cases e2 : i = m - 2
   ·have q : pcG xs i = (xs.drop (8 * (m - 2))).take (xs.length - 2 - 8 * (m - 2)) := by
     unfold pcG
     rw [stG_cut (i := i + 1) (by omega) (by omega), stG_mul (by omega) (by omega), e2]
    rw [q, e2, List.getElem?_set_self (by simp [pcs_len]; omega)]
   ·rw [List.getElem?_set_ne (by omega), pcs_get hi, pcG_plain (by omega) (by omega) (by omega)]
 ·rw [List.getElem?_eq_none (by simp [pcs_len]; omega), List.getElem?_eq_none (by rw [gpl_len, ← hm]; omega)]
theorem gpl_named (a b c : Nat) (P : List PartB) : nameds a b c (gpl (prtsD P)) = true := by
 rw [nameds_iff]
 intro x hx
 simp only [gpl, List.mem_map] at hx
 obtain ⟨i, _, rfl⟩ := hx
 simp only [DV.named]
 rw [nameds_iff]
 intro y hy
 have := prtsD_named a b c P
 rw [nameds_iff] at this
 exact this y (List.mem_of_mem_drop (List.mem_of_mem_take hy))
theorem gplP_len (P : List PartB) : (gpl (prtsD P)).length = pcM P.length 8 := by rw [gpl_len, prtsD_len]
attribute [go_sem] gpl_named gplP_len
theorem c_tree_pieces_tree_part (P : List PartB) (hC : P.length ≤ 1000000) : Pure Try.prog n_tree_pieces_tree_part [.sl (prtsD P), .int .i64 8, .int .i64 2] (.sl (gpl (prtsD P))) := by
 refine Pure.go tok (rs := [.tmp 6]) [.sl (prtsD P), .int .i64 8, .int .i64 2, .undef, .undef, .undef, .undef, .undef, .undef, .undef, .undef, .undef, .undef, .undef, .undef, .undef, .undef, .undef, .undef, .undef, .undef, .undef, .undef, .undef, .undef, .undef, .undef, .undef, .undef, .undef, .undef, .undef, .undef, .undef, .undef, .undef, .undef, .undef, .undef, .undef, .undef, .undef, .undef, .undef, .undef, .undef, .undef, .undef, .undef, .undef, .undef] Try.func47 (fun σ => ?_)
 obtain ⟨m, hm⟩ : ∃ m, m = pcM P.length 8 := ⟨_, rfl⟩
 have hmD : m = pcM (prtsD P).length 8 := by rw [prtsD_len]; exact hm
 have h4 : ∀ i, i < m → 8 * i < P.length := fun i hi => pcM_lt (by omega) (hm ▸ hi)
 have h5 : P.length ≤ 8 * m := hm ▸ pcM_ge (by omega)
 have hl := pcs_len (prtsD P) 8 m
 have hmb : m ≤ 1000000 := by
  rcases Nat.eq_zero_or_pos m with h | h
  ·omega
  ·have := h4 (m - 1) (by omega); omega
 have iC := i_slices_Collect_s_tree_part P 8
 have iK := i_slices_Chunk_s_tree_part_tree_part P 8
 rw [← hm] at iC
 by_cases h1 : 1 < m
 ·have hlast := h4 (m - 1) (by omega)
  have hg : (pcs (prtsD P) 8 m).getD (m - 1) .undef = .sl (pcN (prtsD P) 8 (m - 1)) := by
   rw [List.getD_eq_getElem?_getD, pcs_get (by omega)]; rfl
  have hpl : (pcN (prtsD P) 8 (m - 1)).length = P.length - 8 * (m - 1) := by
   simp only [pcN, List.length_take, List.length_drop, prtsD_len]; omega
  have e1 : ((m : Int) - 1).toNat = m - 1 := by omega
  by_cases h2 : P.length = 8 * (m - 1) + 1
  ·have hcut := gpl_cut hmD (by rw [prtsD_len]; exact h2) h1
   have e2 : ((m : Int) - 2).toNat = m - 2 := by omega
   have e3 : (((m : Int) - 2) * 8).toNat = 8 * (m - 2) := by omega
   have e4 : ((P.length : Int) - 2).toNat = P.length - 2 := by omega
   have hg2 : (pcs (prtsD P) 8 m).getD (m - 2) .undef = .sl (pcN (prtsD P) 8 (m - 2)) := by
    rw [List.getD_eq_getElem?_getD, pcs_get (by omega)]; rfl
   have hTk : (prtsD P).take P.length = prtsD P := List.take_of_length_le (by rw [prtsD_len]; exact Nat.le_refl _)
   have hcut2 : ((pcs (prtsD P) 8 m).set (m - 2) (.sl (List.drop (8 * (m - 2)) (List.take (P.length - 2) (prtsD P))))).set (m - 1) (.sl (List.drop (P.length - 2) (prtsD P))) = gpl (prtsD P) := by
    rw [← hcut, List.drop_take, prtsD_len]
   have hg3 : ∀ X : DV, ((pcs (prtsD P) 8 m).set (m - 2) X).getD (m - 1) .undef = .sl (pcN (prtsD P) 8 (m - 1)) := fun X => by
    rw [← hg, List.getD_eq_getElem?_getD, List.getD_eq_getElem?_getD, List.getElem?_set_ne (by omega)]
   have hgl := gplP_len P
   rw [← hm] at hgl
   repeat' (first | (show Ev _ (.region _ _ true) _ _; refine D_startA [50, 51, 76, 78, 82, 90, 92, 99998, 99997] mix ?_) | (show DrD _ _ _ [] _ _ _ _; refine D_nil ?_; try dsimp only) | (show DrD _ EA _ (_ :: _) _ _ _ _; first | refine D_runLA tok ?_ ?_ (h := by intro R; simp (maxSteps := 1000000) (disch := omega) only [go_sem, wrap_i64_id, hl, e1, e2, e3, e4, hg, hpl, hg2, hg3, hTk, DV.over, List.headD_cons, List.length_set, hcut2]; with_reducible exact rfl)) | (show DrD _ _ _ (_ :: _) _ _ _ _; first | refine D_store tok ?_ ?_ (h := by simp (maxSteps := 1000000) (disch := omega) only [go_sem, wrap_i64_id, hl, e1, e2, e3, e4, hg, hpl, hg2, hg3, hTk, DV.over, List.headD_cons, List.length_set, hcut2]; with_reducible exact rfl) | refine D_hold tok ?_ ?_) | (show Ev _ _ _ _; first | refine Ev_seq ?_ | refine W_reg ?_ | refine W_ifY ?_) | (show EvD _ _ [] _ _ _; refine W_nil ?_) | (show EvD _ _ (⟨_, _, _, _, _, some _⟩ :: _) _ _ _; refine W_grdY ?_) | (show EvD _ _ (_ :: _) _ _ _; first | refine W_run tok ?_ ?_ (by simp (maxSteps := 1000000) (disch := omega) only [go_sem, wrap_i64_id, hl, e1, e2, e3, e4, hg, hpl, hg2, hg3, hTk, DV.over, List.headD_cons, List.length_set, hcut2]; with_reducible exact rfl) | refine W_callee ?_) | (show EvC _ _ _ _ _ _ _ _ _; first | refine W_con ?_ ?_ | refine W_conOwn ?_ ?_) | refine Q_thenN ?_ | fail)
   all_goals (try exact sd)
   all_goals (try refine F_done ?_)
   repeat' (first | (show Ev _ _ _ _; refine Ev_ret ?_) | (show RetQ _ _ (RP _ _) _ _; refine R_ret ?_ ?_) | (show FrzTo _ _ _ _; refine F_row ?_) | fail)
   all_goals (try exact sd)
   all_goals (try refine F_done ?_)
   all_goals first | rfl | (rw [List.length_set]; omega)
  ·have hsame := gpl_same hmD (by rw [prtsD_len]; omega)
   rw [← hsame]
   repeat' (first | (show Ev _ _ _ _; first | refine Ev_seq ?_ | refine W_reg ?_ | refine W_ifN ?_ | refine Ev_skip ?_ | refine Ev_ret ?_) | (show EvD _ _ [] _ _ _; refine W_nil ?_) | (show EvD _ _ (⟨_, _, _, _, _, some _⟩ :: _) _ _ _; refine W_grdY ?_) | (show EvD _ _ (_ :: _) _ _ _; first | refine W_run tok ?_ ?_ (by simp (maxSteps := 1000000) (disch := omega) only [go_sem, wrap_i64_id, hl, e1, hg, hpl]; with_reducible exact rfl) | refine W_callee ?_) | (show EvC _ _ _ _ _ _ _ _ _; first | refine W_con ?_ ?_ | refine W_conOwn ?_ ?_) | (show RetQ _ _ (RP _ _) _ _; refine R_ret ?_ ?_) | (show FrzTo _ _ _ _; refine F_row ?_) | refine Q_thenN ?_ | fail)
   all_goals (try exact sd)
   all_goals (try refine F_done ?_)
   all_goals first | rfl | trace_state
 ·have hsame := gpl_same hmD (by omega)
  rw [← hsame]
  repeat' (first | (show Ev _ _ _ _; first | refine Ev_seq ?_ | refine W_reg ?_ | refine W_ifF ?_ | refine Ev_skip ?_ | refine Ev_ret ?_) | (show EvD _ _ [] _ _ _; refine W_nil ?_) | (show EvD _ _ (⟨_, _, _, _, _, some _⟩ :: _) _ _ _; refine W_grdN ?_) | (show EvD _ _ (_ :: _) _ _ _; first | refine W_run tok ?_ ?_ (by simp (maxSteps := 1000000) (disch := omega) only [go_sem, wrap_i64_id, hl]; with_reducible exact rfl) | refine W_callee ?_) | (show EvC _ _ _ _ _ _ _ _ _; first | refine W_con ?_ ?_ | refine W_conOwn ?_ ?_) | (show RetQ _ _ (RP _ _) _ _; refine R_ret ?_ ?_) | (show FrzTo _ _ _ _; refine F_row ?_) | refine Q_thenN ?_ | fail)
  all_goals (try exact sd)
  all_goals (try refine F_done ?_)
  all_goals first | rfl | trace_state
instance i_tree_pieces_tree_part (P : List PartB) : Con Try.prog 47 [.sl (prtsD P), .int .i64 8, .int .i64 2] (P.length ≤ 1000000) (.sl (gpl (prtsD P))) := ⟨c_tree_pieces_tree_part P ⟩
end Go.Val.Ytgjmpefhjdgkoaa
