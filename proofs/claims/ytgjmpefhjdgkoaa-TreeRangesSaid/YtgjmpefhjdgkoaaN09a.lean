/- Chapter 09: lists in pieces: slices.Chunk's iterator, and what is collected of it, walked. -/
import Derived.Test.YtgjmpefhjdgkoaaN08a
import Derived.Test.YtgjmpefhjdgkoaaVM8
namespace Go.Val.Ytgjmpefhjdgkoaa
open Go Go.Val Go.Proofs Go.Proofs.Ytgjmpefhjdgkoaa
attribute [local irreducible] Ev EvD EvC thenQ blockQ RoundG RetQ
set_option maxRecDepth 100000
set_option maxHeartbeats 4000000
set_option linter.unusedSimpArgs false
set_option linter.unusedVariables false
def pcN (xs : List DV) (n i : Nat) : List DV := (xs.drop (n * i)).take n
def pcM (len n : Nat) : Nat := (len + n - 1) / n
def pcs (xs : List DV) (n m : Nat) : List DV := (List.range m).map fun i => .sl (pcN xs n i)
theorem c_slices_Chunk_s_api_Pair_api_Pair (P : List PairB) (n : Int) (hC : 1 ≤ n) : Pure Try.prog n_slices_Chunk_s_api_Pair_api_Pair [.sl (pairsD P), .int .i64 n] (.fn (.func 91) [] [.cp [.sl (pairsD P)], .cp [.int .i64 n]]) := by
 refine Pure.go tok (rs := [.tmp 4]) [.sl (pairsD P), .int .i64 n, .undef, .undef, .undef, .undef, .undef, .undef, .undef] Try.func77 (fun σ => ?_)
 repeat' (first | (show Ev _ _ _ _; first | refine Ev_seq ?_ | refine W_reg ?_ | refine W_ifN ?_ | refine Ev_skip ?_) | (show EvD _ _ [] _ _ _; refine W_nil ?_) | (show EvD _ _ (_ :: _) _ _ _; first | refine W_run tok ?_ ?_ (by simp (maxSteps := 1000000) (disch := omega) only [go_sem, wrap_i64_id]; with_reducible exact rfl)) | refine Q_thenN ?_ | fail)
 all_goals (try exact sd)
 all_goals (try refine F_done ?_)
 refine Ev_fixS (σ.boxes.length + 1) (by (try simp only [app_get, app_get0, List.getElem?_cons_succ, List.getElem?_cons_zero]) <;> exact rfl) (by (try simp (disch := omega) only [List.map_cons, List.map_nil, bfz, bfz1, if_true, if_pos, if_neg, List.drop_zero]) <;> exact rfl) (by (try simp only [app_set, app_set0, List.set_cons_succ, List.set_cons_zero]) <;> exact rfl) ?_
 refine Ev_fixS σ.boxes.length (by (try simp only [app_get, app_get0, List.getElem?_cons_succ, List.getElem?_cons_zero]) <;> exact rfl) (by (try simp (disch := omega) only [List.map_cons, List.map_nil, bfz, bfz1, if_true, if_pos, if_neg, List.drop_zero]) <;> exact rfl) (by (try simp only [app_set, app_set0, List.set_cons_succ, List.set_cons_zero]) <;> exact rfl) ?_
 repeat' (first | (show Ev _ _ _ _; refine Ev_ret ?_) | (show RetQ _ _ (RP _ _) _ _; refine R_ret ?_ ?_) | fail)
 all_goals (try exact sd)
 all_goals (try refine F_done ?_)
 all_goals rfl
instance i_slices_Chunk_s_api_Pair_api_Pair (P : List PairB) (n : Int) : Con Try.prog 77 [.sl (pairsD P), .int .i64 n] (1 ≤ n) (.fn (.func 91) [] [.cp [.sl (pairsD P)], .cp [.int .i64 n]]) := ⟨c_slices_Chunk_s_api_Pair_api_Pair P  n ⟩
theorem it_Chunk_pair (xs : List DV) (n m : Nat) (hn : 1 ≤ n) (hn2 : n ≤ 1000) (hxs : xs.length < 1099511627776) (h2 : ∀ x ∈ xs, x.cells.length = 2) (hm1 : ∀ i, i < m → n * i < xs.length) (hm2 : xs.length ≤ n * m) (S : Nat → Store) (l : Nat) (p : Tmp) (assign body : Code) (own : List DV)
  (hR : ∀ i, i < m → RoundD Try.prog p assign body own (.sl (pcN xs n i)) (S i) (S (i + 1))) :
  DoesB (LoopB l p assign body own) Try.prog 91 [.fn (.yield l) [] [], .cp [.sl xs], .cp [.int .i64 n]] (S 0) (fun _ τ => τ = S m) := by
 refine DoesB_body tok Try.func91 rfl (fun _ _ _ h => h.up) ?_
 refine EvI_seqL ?_
 show Ev _ _ ⟨[.fn (.yield l) [] [], .cp [.sl xs], .cp [.int .i64 n], .undef, .undef, .undef, .undef, .undef, .undef, .undef, .undef, .undef, .undef, .undef, .undef, .undef, .undef, .undef, .undef, .undef, .undef, .undef, .undef, .undef, .undef, .undef, .undef, .undef, .undef, .undef, .undef], S 0⟩ _
 repeat' (first | (show Ev _ _ _ _; refine W_reg ?_) | (show EvD _ _ [] _ _ _; refine W_nil ?_) | (show EvD _ _ (_ :: _) _ _ _; refine W_run tok ?_ ?_) | fail)
 all_goals (try exact sd)
 all_goals (try refine F_done ?_)
 refine ⟨rfl, ?_⟩
 refine EvI_block ?_
 refine EvI_lp (fun i => [.fn (.yield l) [] [], .cp [.sl xs], .cp [.int .i64 n], .undef, .int .i64 ((n * i : Nat) : Int), .undef, .undef, .undef, .undef, .undef, .undef, .undef, .undef, .undef, .undef, .undef, .undef, .undef, .undef, .undef, .undef, .undef, .undef, .undef, .undef, .undef, .undef, .undef, .undef, .undef, .undef]) S m ?_ rfl (fun i hi => ?_)
 ·repeat (first | exact LeL.nil | refine LeL.cons2 ?_ (Le.refl _) | refine LeL.cons2 ?_ (Le.eq (by simp)))
 by_cases hi' : i < m
 ·have h1 := hm1 i hi'
  have fa : decide (((n * i : Nat) : Int) < (xs.length : Int)) = true := decide_eq_true (by omega)
  have hb : n * i ≤ 1099511627776 := by omega
  refine EvI_seq (EvI_seqL ?_)
  repeat' (first | (show Ev _ _ _ _; refine W_reg ?_) | (show EvD _ _ [] _ _ _; refine W_nil ?_) | (show EvD _ _ (_ :: _) _ _ _; first | refine W_run tok ?_ ?_ (by simp (maxSteps := 1000000) (disch := omega) only [go_sem, wrap_i64_id]; with_reducible exact rfl)) | fail)
  all_goals (try exact sd)
  all_goals (try refine F_done ?_)
  refine ⟨rfl, ?_⟩
  refine EvI_true (congrArg DV.bool fa) (EvI_skip ?_)
  obtain ⟨k, hk⟩ : ∃ k, k = min n (xs.length - n * i) := ⟨_, rfl⟩
  have he : (if (((xs.length - n * i : Nat) : Int)) < (n : Int) then (((xs.length - n * i : Nat) : Int)) else (n : Int)) = (k : Int) := by split <;> omega
  have e2 : (((n * i : Nat) : Int) + (k : Int)).toNat = n * i + k := by omega
  have hsl : List.drop (n * i) (List.take (n * i + k) xs) = pcN xs n i := by
   rw [pcN, List.drop_take, show n * i + k - n * i = k by omega]
   by_cases hkn : k = n
   ·rw [hkn]
   ·rw [List.take_of_length_le (i := n) (by rw [List.length_drop]; omega), List.take_of_length_le (by rw [List.length_drop]; omega)]
  refine EvI_seq (EvI_block (EvI_seqL ?_))
  repeat' (first | (show Ev _ (.region _ _ true) _ _; refine D_start [50, 51, 76, 78, 82, 90, 92] mix ?_) | (show DrD _ _ _ [] _ _ _ _; refine D_nil ?_; try dsimp only) | (show DrD _ (EB _ _) _ (_ :: _) _ _ _ _; first | refine D_runL tok ?_ ?_ (h := by intro R; simp (maxSteps := 1000000) (disch := omega) only [go_sem, wrap_i64_id, List.take_length, List.length_drop, he]; with_reducible exact rfl)) | fail)
  all_goals (try exact sd)
  all_goals (try refine F_done ?_)
  refine ⟨rfl, ?_⟩
  refine EvI_seq (EvI_reg (EvDI_cut wide_wide 10 ?_))
  repeat' (first | (show EvD _ _ [] _ _ _; refine W_nil ?_) | (show EvD _ _ (_ :: _) _ _ _; first | refine W_run tok ?_ ?_ (by simp (maxSteps := 1000000) (disch := omega) only [go_sem, wrap_i64_id, List.take_length, he, e2, hsl]; with_reducible exact rfl)) | fail)
  all_goals (try exact sd)
  all_goals (try refine F_done ?_)
  refine ⟨rfl, ?_⟩
  refine EvDI_yield (hR i hi') (EvDI_all wide_wide ?_)
  repeat' (first | (show EvD _ _ [] _ _ _; refine W_nil ?_) | (show EvD _ _ (_ :: _) _ _ _; refine W_run tok ?_ ?_) | fail)
  all_goals (try exact sd)
  all_goals (try refine F_done ?_)
  refine ⟨rfl, ?_⟩
  refine EvI_false rfl (EvI_skip (Q_blkN ?_))
  refine EvI_endL ?_
  repeat' (first | (show Ev _ _ _ _; refine W_reg ?_) | (show EvD _ _ [] _ _ _; refine W_nil ?_) | (show EvD _ _ (_ :: _) _ _ _; first | refine W_run tok ?_ ?_ (by simp (maxSteps := 1000000) (disch := omega) only [go_sem, wrap_i64_id]; with_reducible exact rfl)) | fail)
  all_goals (try exact sd)
  all_goals (try refine F_done ?_)
  refine ⟨rfl, hi', ?_, rfl⟩
  ·repeat (first | exact LeL.nil | refine LeL.cons2 ?_ (Le.undef _) | refine LeL.cons2 ?_ (Le.refl _) | refine LeL.cons2 ?_ (Le.eq (congrArg _ (by rw [Nat.mul_succ]; omega))))
  all_goals first | exact ⟨by omega, by omega, by omega, by omega, h2⟩ | exact ⟨by omega, by omega, h2⟩
 ·obtain rfl : i = m := by omega
  have fa : decide (((n * i : Nat) : Int) < (xs.length : Int)) = false := decide_eq_false (by omega)
  refine EvI_seq (EvI_seqL ?_)
  repeat' (first | (show Ev _ _ _ _; refine W_reg ?_) | (show EvD _ _ [] _ _ _; refine W_nil ?_) | (show EvD _ _ (_ :: _) _ _ _; first | refine W_run tok ?_ ?_ (by simp (maxSteps := 1000000) (disch := omega) only [go_sem, wrap_i64_id]; with_reducible exact rfl)) | fail)
  all_goals (try exact sd)
  all_goals (try refine F_done ?_)
  refine ⟨rfl, ?_⟩
  refine EvI_false (congrArg DV.bool fa) (EvI_exit ?_)
  refine Q_blkE ?_
  exact RetQ_none (R := fun _ τ => τ = S i) rfl
theorem pcs_len (xs : List DV) (n m : Nat) : (pcs xs n m).length = m := by simp [pcs]
theorem pcs_snoc (xs : List DV) (n i : Nat) : pcs xs n i ++ [.sl (pcN xs n i)] = pcs xs n (i + 1) := by simp [pcs, List.range_succ]
theorem pcs_named (a b c : Nat) (P : List PairB) (n m : Nat) : nameds a b c (pcs (pairsD P) n m) = true := by
 rw [nameds_iff]
 intro x hx
 simp only [pcs, List.mem_map] at hx
 obtain ⟨i, _, rfl⟩ := hx
 simp only [DV.named]
 rw [nameds_iff]
 intro y hy
 have := pairsD_named a b c P
 rw [nameds_iff] at this
 exact this y (List.mem_of_mem_drop (List.mem_of_mem_take hy))
attribute [go_sem] pcs_named pcs_len
abbrev chunkD (xs : List DV) (n : Int) : DV := .fn (.func 91) [] [.cp [.sl xs], .cp [.int .i64 n]]
theorem pcM_lt {len n i : Nat} (hn : 1 ≤ n) (h : i < pcM len n) : n * i < len := by
 unfold pcM at h
 have := (Nat.le_div_iff_mul_le (by omega : 0 < n)).1 (show i + 1 ≤ (len + n - 1) / n by omega)
 rw [Nat.add_mul, Nat.mul_comm] at this
 omega
theorem pcM_ge {len n : Nat} (hn : 1 ≤ n) : len ≤ n * pcM len n := by
 unfold pcM
 have := Nat.div_add_mod (len + n - 1) n
 have := Nat.mod_lt (len + n - 1) (by omega : 0 < n)
 omega
theorem c_slices_AppendSeq_s_s_api_Pair_s_api_Pair (P : List PairB) (n : Nat) (hC : 1 ≤ n ∧ n ≤ 1000 ∧ P.length < 1099511627776) : PureOwn Try.prog n_slices_AppendSeq_s_s_api_Pair_s_api_Pair [.slt [], chunkD (pairsD P) n] (pcs (pairsD P) n (pcM P.length n)) 22 1 := by
 refine PureOwn.go tok (rs := [.tmp 4]) [.slt [], chunkD (pairsD P) n, .undef, .undef, .undef, .undef, .undef, .undef, .undef, .undef, .undef, .undef, .undef] Try.func90 (fun σ => ?_)
 obtain ⟨h1, h2, h3⟩ := hC
 obtain ⟨m, hm⟩ : ∃ m, m = pcM P.length n := ⟨_, rfl⟩
 have h4 : ∀ i, i < m → n * i < P.length := fun i hi => pcM_lt h1 (hm ▸ hi)
 have h5 : P.length ≤ n * m := hm ▸ pcM_ge h1
 rw [← hm]
 repeat' (first | (show Ev _ _ _ _; first | refine Ev_seq ?_ | refine W_reg ?_ | refine Ev_block ?_) | (show EvD _ _ [] _ _ _; refine W_nil ?_) | (show EvD _ _ (_ :: _) _ _ _; refine W_run tok ?_ ?_) | refine Q_thenN ?_ | fail)
 all_goals (try exact sd)
 all_goals (try refine F_done ?_)
 refine Ev_seedB σ.boxes.length 0 22 1 (by (try simp only [app_get, app_get0, List.getElem?_cons_succ, List.getElem?_cons_zero]) <;> exact rfl) (by (try simp only [List.getElem?_cons_succ, List.getElem?_cons_zero]) <;> exact rfl) (by decide) (by (try simp only [app_len, List.length_cons, List.length_nil, Nat.zero_add, Nat.reduceAdd, app_set, app_set0, List.set_cons_succ, List.set_cons_zero]) <;> exact rfl) (by (try simp only [List.append_assoc, List.cons_append, List.nil_append]) <;> exact rfl) ?_
 refine Ev_range rfl at_slices_Chunk_s_api_Pair_api_Pair_1 (fun l => it_Chunk_pair (pairsD P) n m h1 h2 (by rw [pairsD_len]; exact h3) (of_eq_true (pairsD_two P)) (by rw [pairsD_len]; exact h4) (by rw [pairsD_len]; exact h5) (fun i => ⟨σ.rows ++ [some ⟨pcs (pairsD P) n i, 22, 1⟩], σ.boxes ++ [some ⟨77, [.row σ.rows.length i]⟩], σ.maps⟩) l _ _ _ _ (fun i hi l' n' => ?_)) ?_
 ·simp only [List.set_cons_succ, List.set_cons_zero]
  refine EvI_reg ?_
  refine EvDI_all (wide_round _) ?_
  repeat' (first | (show EvD _ _ [] _ _ _; refine W_nil ?_) | (show EvD _ _ (_ :: _) _ _ _; refine W_run tok ?_ ?_) | fail)
  all_goals (try exact sd)
  all_goals (try refine F_done ?_)
  refine ⟨rfl, rfl, rfl, ?_⟩
  refine EvI_block ?_
  refine EvI_reg ?_
  refine EvDI_all (wide_round _) ?_
  have hl := pcs_len (pairsD P) n i
  have hi2 : i ≤ n * i := Nat.le_mul_of_pos_left i h1
  have hi3 := h4 i hi
  repeat' (first | (show EvD _ _ [] _ _ _; refine W_nil ?_) | (show EvD _ _ (_ :: _) _ _ _; first | refine W_run tok ?_ ?_ (by simp (maxSteps := 1000000) (disch := omega) only [go_sem, wrap_i64_id, hl]; with_reducible exact rfl)) | fail)
  all_goals (try exact sd)
  all_goals (try refine F_done ?_)
  refine ⟨rfl, Q_blkN ⟨rfl, ?_⟩⟩
  rw [← pcs_snoc]
  all_goals first | rfl | trace_state
 ·refine Q_blkN ?_
  repeat' (first | (show Ev _ _ _ _; first | refine Ev_seq ?_ | refine W_reg ?_ | refine Ev_ret ?_) | (show EvD _ _ [] _ _ _; refine W_nil ?_) | (show EvD _ _ (_ :: _) _ _ _; refine W_run tok ?_ ?_) | (show RetQ _ _ (RO _ _ _ _) _ _; refine R_own ?_ ?_) | refine Q_thenN ?_ | fail)
  all_goals (try exact sd)
  all_goals (try refine F_done ?_)
  all_goals rfl
instance i_slices_AppendSeq_s_s_api_Pair_s_api_Pair (P : List PairB) (n : Nat) : ConOwn Try.prog 90 [.slt [], chunkD (pairsD P) n] (1 ≤ n ∧ n ≤ 1000 ∧ P.length < 1099511627776) (pcs (pairsD P) n (pcM P.length n)) (22) (1) := ⟨c_slices_AppendSeq_s_s_api_Pair_s_api_Pair P  n ⟩
theorem c_slices_Collect_s_api_Pair (P : List PairB) (n : Nat) (hC : 1 ≤ n ∧ n ≤ 1000 ∧ P.length < 1099511627776) : PureOwn Try.prog n_slices_Collect_s_api_Pair [chunkD (pairsD P) n] (pcs (pairsD P) n (pcM P.length n)) 22 1 := by
 refine PureOwn.go tok (rs := [.tmp 2]) [chunkD (pairsD P) n, .undef, .undef, .undef, .undef] Try.func76 (fun σ => ?_)
 have hl := pcs_len (pairsD P) n (pcM P.length n)
 repeat' (first | (show Ev _ _ _ _; first | refine Ev_seq ?_ | refine W_reg ?_ | refine Ev_ret ?_) | (show EvD _ _ [] _ _ _; refine W_nil ?_) | (show EvD _ _ (_ :: _) _ _ _; first | refine W_run tok ?_ ?_ (by simp (maxSteps := 1000000) (disch := omega) only [go_sem, hl]; with_reducible exact rfl) | refine W_callee ?_) | (show EvC _ _ _ _ _ _ _ _ _; refine W_conOwn ?_ ?_) | (show RetQ _ _ (RO _ _ _ _) _ _; refine R_own ?_ ?_) | refine Q_thenN ?_ | fail)
 all_goals (try exact sd)
 all_goals (try refine F_done ?_)
 all_goals first | rfl | trace_state
instance i_slices_Collect_s_api_Pair (P : List PairB) (n : Nat) : ConOwn Try.prog 76 [chunkD (pairsD P) n] (1 ≤ n ∧ n ≤ 1000 ∧ P.length < 1099511627776) (pcs (pairsD P) n (pcM P.length n)) (22) (1) := ⟨c_slices_Collect_s_api_Pair P  n ⟩
theorem c_tree_pieces_api_Pair (P : List PairB) (hC : P.length ≤ 1000000) : Pure Try.prog n_tree_pieces_api_Pair [.sl (pairsD P), .int .i64 5, .int .i64 1] (.sl (pcs (pairsD P) 5 (pcM P.length 5))) := by
 refine Pure.go tok (rs := [.tmp 6]) [.sl (pairsD P), .int .i64 5, .int .i64 1, .undef, .undef, .undef, .undef, .undef, .undef, .undef, .undef, .undef, .undef, .undef, .undef, .undef, .undef, .undef, .undef, .undef, .undef, .undef, .undef, .undef, .undef, .undef, .undef, .undef, .undef, .undef, .undef, .undef, .undef, .undef, .undef, .undef, .undef, .undef, .undef, .undef, .undef, .undef, .undef, .undef, .undef, .undef, .undef, .undef, .undef, .undef, .undef] Try.func45 (fun σ => ?_)
 obtain ⟨m, hm⟩ : ∃ m, m = pcM P.length 5 := ⟨_, rfl⟩
 have h4 : ∀ i, i < m → 5 * i < P.length := fun i hi => pcM_lt (by omega) (hm ▸ hi)
 have h5 : P.length ≤ 5 * m := hm ▸ pcM_ge (by omega)
 have hl := pcs_len (pairsD P) 5 m
 have hmb : m ≤ 1000000 := by
  rcases Nat.eq_zero_or_pos m with h | h
  ·omega
  ·have := h4 (m - 1) (by omega); omega
 have iC := i_slices_Collect_s_api_Pair P 5
 have iK := i_slices_Chunk_s_api_Pair_api_Pair P 5
 rw [← hm] at iC ⊢
 by_cases h1 : 1 < m
 ·have hg : (pcs (pairsD P) 5 m).getD (m - 1) .undef = .sl (pcN (pairsD P) 5 (m - 1)) := by
   simp [pcs, List.getD_eq_getElem?_getD, List.getElem?_map, List.getElem?_range (by omega : m - 1 < m)]
  have hpl : 1 ≤ (pcN (pairsD P) 5 (m - 1)).length ∧ (pcN (pairsD P) 5 (m - 1)).length ≤ 5 := by
   have := h4 (m - 1) (by omega)
   simp only [pcN, List.length_take, List.length_drop, pairsD_len]; omega
  have e1 : ((m : Int) - 1).toNat = m - 1 := by omega
  repeat' (first | (show Ev _ _ _ _; first | refine Ev_seq ?_ | refine W_reg ?_ | refine W_ifN ?_ | refine Ev_skip ?_ | refine Ev_ret ?_) | (show EvD _ _ [] _ _ _; refine W_nil ?_) | (show EvD _ _ (⟨_, _, _, _, _, some _⟩ :: _) _ _ _; refine W_grdY ?_) | (show EvD _ _ (_ :: _) _ _ _; first | refine W_run tok ?_ ?_ (by simp (maxSteps := 1000000) (disch := omega) only [go_sem, wrap_i64_id, hl, e1, hg]; with_reducible exact rfl) | refine W_callee ?_) | (show EvC _ _ _ _ _ _ _ _ _; first | refine W_con ?_ ?_ | refine W_conOwn ?_ ?_) | (show RetQ _ _ (RP _ _) _ _; refine R_ret ?_ ?_) | (show FrzTo _ _ _ _; refine F_row ?_) | refine Q_thenN ?_ | fail)
  all_goals (try exact sd)
  all_goals (try refine F_done ?_)
  all_goals first | rfl | trace_state
 ·repeat' (first | (show Ev _ _ _ _; first | refine Ev_seq ?_ | refine W_reg ?_ | refine W_ifF ?_ | refine Ev_skip ?_ | refine Ev_ret ?_) | (show EvD _ _ [] _ _ _; refine W_nil ?_) | (show EvD _ _ (⟨_, _, _, _, _, some _⟩ :: _) _ _ _; refine W_grdN ?_) | (show EvD _ _ (_ :: _) _ _ _; first | refine W_run tok ?_ ?_ (by simp (maxSteps := 1000000) (disch := omega) only [go_sem, wrap_i64_id, hl]; with_reducible exact rfl) | refine W_callee ?_) | (show EvC _ _ _ _ _ _ _ _ _; first | refine W_con ?_ ?_ | refine W_conOwn ?_ ?_) | (show RetQ _ _ (RP _ _) _ _; refine R_ret ?_ ?_) | (show FrzTo _ _ _ _; refine F_row ?_) | refine Q_thenN ?_ | fail)
  all_goals (try exact sd)
  all_goals (try refine F_done ?_)
  all_goals first | rfl | trace_state
instance i_tree_pieces_api_Pair (P : List PairB) : Con Try.prog 45 [.sl (pairsD P), .int .i64 5, .int .i64 1] (P.length ≤ 1000000) (.sl (pcs (pairsD P) 5 (pcM P.length 5))) := ⟨c_tree_pieces_api_Pair P ⟩
end Go.Val.Ytgjmpefhjdgkoaa
