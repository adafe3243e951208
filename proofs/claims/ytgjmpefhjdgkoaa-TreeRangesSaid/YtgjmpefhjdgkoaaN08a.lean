/- Chapter 08: nodes as data; what may be a key, a value, a node, walked. -/
import Derived.Test.YtgjmpefhjdgkoaaK03
import Derived.Test.YtgjmpefhjdgkoaaVM6
import Derived.Test.YtgjmpefhjdgkoaaVM7
namespace Go.Val.Ytgjmpefhjdgkoaa
open Go Go.Val Go.Proofs Go.Proofs.Ytgjmpefhjdgkoaa
attribute [local irreducible] Ev EvD EvC thenQ blockQ RoundG RetQ
set_option maxRecDepth 100000
set_option maxHeartbeats 4000000
set_option linter.unusedSimpArgs false
set_option linter.unusedVariables false
abbrev PairB := List UInt8 × List UInt8
def pairD (p : PairB) : DV := .agg [.str p.1, .str p.2]
def pairsD (P : List PairB) : List DV := P.map pairD
def strsD (K : List (List UInt8)) : List DV := K.map .str
def kidsD (C : List Int) : List DV := C.map (.int .i64 ·)
abbrev nodeD (P : List PairB) (K : List (List UInt8)) (C : List Int) : DV := .agg [.sl (pairsD P), .sl (strsD K), .sl (kidsD C)]
theorem pairsD_len (P : List PairB) : (pairsD P).length = P.length := by simp [pairsD]
theorem strsD_len (K : List (List UInt8)) : (strsD K).length = K.length := by simp [strsD]
theorem kidsD_len (C : List Int) : (kidsD C).length = C.length := by simp [kidsD]
theorem pairsD_get {P : List PairB} {i : Nat} (h : i < P.length) : (pairsD P).getD i .undef = .agg [.str (P.getD i ([], [])).1, .str (P.getD i ([], [])).2] := by
 simp [pairsD, List.getD_eq_getElem?_getD, List.getElem?_map, List.getElem?_eq_getElem h, pairD]
theorem strsD_get {K : List (List UInt8)} {i : Nat} (h : i < K.length) : (strsD K).getD i .undef = .str (K.getD i []) := by
 simp [strsD, List.getD_eq_getElem?_getD, List.getElem?_map, List.getElem?_eq_getElem h]
theorem kidsD_get {C : List Int} {i : Nat} (h : i < C.length) : (kidsD C).getD i .undef = .int .i64 (C.getD i 0) := by
 simp [kidsD, List.getD_eq_getElem?_getD, List.getElem?_map, List.getElem?_eq_getElem h]
theorem pairsD_two (P : List PairB) : (∀ x ∈ pairsD P, x.cells.length = 2) = True := by
 simp only [eq_iff_iff, iff_true]
 intro x hx
 obtain ⟨p, _, rfl⟩ := List.mem_map.1 hx
 rfl
theorem strsD_one (K : List (List UInt8)) : (∀ x ∈ strsD K, x.cells.length = 1) = True := by
 simp only [eq_iff_iff, iff_true]
 intro x hx
 obtain ⟨p, _, rfl⟩ := List.mem_map.1 hx
 rfl
theorem kidsD_one (K : List Int) : (∀ x ∈ kidsD K, x.cells.length = 1) = True := by
 simp only [eq_iff_iff, iff_true]
 intro x hx
 obtain ⟨p, _, rfl⟩ := List.mem_map.1 hx
 rfl
theorem pairsD_named (r b m : Nat) (P : List PairB) : nameds r b m (pairsD P) = true := by
 rw [nameds_iff]; intro x hx; obtain ⟨p, _, rfl⟩ := List.mem_map.1 hx; rfl
theorem strsD_named (r b m : Nat) (P : List (List UInt8)) : nameds r b m (strsD P) = true := by
 rw [nameds_iff]; intro x hx; obtain ⟨p, _, rfl⟩ := List.mem_map.1 hx; rfl
theorem kidsD_named (r b m : Nat) (P : List Int) : nameds r b m (kidsD P) = true := by
 rw [nameds_iff]; intro x hx; obtain ⟨p, _, rfl⟩ := List.mem_map.1 hx; rfl
attribute [go_sem] pairsD_len strsD_len kidsD_len pairsD_two strsD_one kidsD_one pairsD_named strsD_named kidsD_named
theorem c_IdxT (xs : List DV) (g : FuncId) (fs cs : List DV) {dom : DV → Prop} {p : DV → Bool} (hp : PredC Try.prog g fs cs dom p) (hC : (xs.length < 1099511627776 ∧ ∀ x ∈ xs, x.cells = [x]) ∧ ∀ x ∈ xs, dom x) :
  Pure Try.prog n_slices_IndexFunc_s_string_string [.sl xs, .fn (.func g) fs cs] (.int .i64 (idxI p xs)) := by
 have i1 := hp.fnc
 have i2 := fun x => hp.con x
 have hle : xs.findIdx p ≤ xs.length := List.findIdx_le_length
 refine Pure.go tok (rs := [.tmp 4]) [.sl xs, .fn (.func g) fs cs, .undef, .undef, .undef, .undef, .undef, .undef, .undef, .undef, .undef, .undef, .undef, .undef, .undef, .undef, .undef, .undef, .undef] Try.func84 (fun σ => ?_)
 repeat' (first | (show Ev _ _ _ _; first | refine Ev_seq ?_ | refine W_reg ?_ | refine Ev_block ?_) | (show EvD _ _ [] _ _ _; refine W_nil ?_) | (show EvD _ _ (_ :: _) _ _ _; first | refine W_run tok ?_ ?_ (by simp (maxSteps := 1000000) (disch := omega) only [go_sem, wrap_i64_id]; with_reducible exact rfl)) | refine Q_thenN ?_ | fail)
 all_goals (try exact sd)
 all_goals (try refine F_done ?_)
 refine Ev_lp (xs.findIdx p) (fun i => [(8, i64 i)]) (fun i => σ) [4, 5, 9, 10, 11, 12, 13, 14, 15, 16, 17, 18] ?_ (by first | rfl | (simp only [List.take_zero, List.append_nil]; done)) (fun i hi => ?_)
 ·exact le1
 by_cases hi' : i < xs.findIdx p
 ·have hil : i < xs.length := by omega
  have hd := hC.2 _ (getD_mem hil)
  have hf := fi_lt hi'
  have hx0 : (xs.getD i .undef).cells = [xs.getD i .undef] := hC.1.2 _ (getD_mem hil)
  have i3 := hp.con (xs.getD i .undef)
  rw [hf] at i3
  repeat' (first | (show Ev _ _ _ _; first | refine Ev_seq ?_ | refine W_reg ?_ | refine Ev_block ?_ | refine W_ifF ?_ | refine W_ifY ?_ | refine Ev_skip ?_) | (show EvD _ _ [] _ _ _; refine W_nil ?_) | (show EvD _ _ (_ :: _) _ _ _; first | refine W_run tok ?_ ?_ (by simp (maxSteps := 1000000) (disch := omega) only [go_sem, wrap_i64_id, hx0]; with_reducible exact rfl) | refine W_callee ?_) | (show EvC _ _ _ _ _ _ _ _ _; refine W_con ?_ ?_) | refine Q_thenN ?_ | refine Q_blkN ?_ | fail)
  all_goals (try exact sd)
  all_goals (try refine F_done ?_)
  refine Q_rndN ?_ (by omega) ?_
  rotate_left
  ·rfl
  repeat (first | exact LeL.nil | refine LeL.cons2 ?_ (Le.undef _) | refine LeL.cons2 ?_ (Le.refl _) | refine LeL.cons2 ?_ (Le.sl _) | refine LeL.cons2 ?_ (Le.eq (by first | rfl | exact congrArg _ (by omega))) | refine LeL.cons2 ?_ (Le.eq ?_))
 ·obtain rfl : i = xs.findIdx p := by omega
  by_cases hil : xs.findIdx p < xs.length
  ·have hd := hC.2 _ (getD_mem hil)
   have hf := fi_eq hil
   clear hi'
   generalize hj : xs.findIdx p = i at hi hf hd hil ⊢
   have hx0 : (xs.getD i .undef).cells = [xs.getD i .undef] := hC.1.2 _ (getD_mem hil)
   have hk : idxI p xs = i := by unfold idxI; rw [hj, if_pos hil]
   have i3 := hp.con (xs.getD i .undef)
   rw [hf] at i3
   repeat' (first | (show Ev _ _ _ _; first | refine Ev_seq ?_ | refine W_reg ?_ | refine Ev_block ?_ | refine W_ifT ?_ | refine W_ifY ?_ | refine Ev_skip ?_ | refine Ev_ret ?_) | (show EvD _ _ [] _ _ _; refine W_nil ?_) | (show EvD _ _ (_ :: _) _ _ _; first | refine W_run tok ?_ ?_ (by simp (maxSteps := 1000000) (disch := omega) only [go_sem, wrap_i64_id, hx0]; with_reducible exact rfl) | refine W_callee ?_) | (show EvC _ _ _ _ _ _ _ _ _; refine W_con ?_ ?_) | (show RetQ _ _ (RP _ _) _ _; refine R_ret ?_ ?_) | refine Q_thenN ?_ | refine Q_thenR ?_ | refine Q_blkR ?_ | refine Q_rndR ?_ | fail)
   all_goals (try exact sd)
   all_goals (try refine F_done ?_)
   rw [hk]
  ·have hk : idxI p xs = -1 := by unfold idxI; rw [if_neg hil]
   repeat' (first | (show Ev _ _ _ _; first | refine Ev_seq ?_ | refine W_reg ?_ | refine W_ifN ?_ | refine Ev_exit ?_ | refine Ev_ret ?_) | (show EvD _ _ [] _ _ _; refine W_nil ?_) | (show EvD _ _ (_ :: _) _ _ _; first | refine W_run tok ?_ ?_ (by simp (maxSteps := 1000000) (disch := omega) only [go_sem, wrap_i64_id]; with_reducible exact rfl)) | (show RetQ _ _ (RP _ _) _ _; refine R_ret ?_ ?_) | refine Q_thenN ?_ | refine Q_thenE ?_ | refine Q_blkE ?_ | refine Q_rndE ?_ | fail)
   all_goals (try exact sd)
   all_goals (try refine F_done ?_)
   rw [hk]
instance i_IdxT (xs : List DV) (g : FuncId) (fs cs : List DV) {dom : DV → Prop} {p : DV → Bool} [hp : PredC Try.prog g fs cs dom p] : Con Try.prog n_slices_IndexFunc_s_string_string [.sl xs, .fn (.func g) fs cs] ((xs.length < 1099511627776 ∧ ∀ x ∈ xs, x.cells = [x]) ∧ ∀ x ∈ xs, dom x) (.int .i64 (idxI p xs)) :=
 ⟨c_IdxT xs g fs cs hp⟩
theorem c_HasT (xs : List DV) (g : FuncId) (fs cs : List DV) {dom : DV → Prop} {p : DV → Bool} [hp : PredC Try.prog g fs cs dom p] (hC : (xs.length < 1099511627776 ∧ ∀ x ∈ xs, x.cells = [x]) ∧ ∀ x ∈ xs, dom x) :
  Pure Try.prog n_slices_ContainsFunc_s_string_string [.sl xs, .fn (.func g) fs cs] (.bool (xs.any p)) := by
 refine Pure.go tok (rs := [.tmp 4]) [.sl xs, .fn (.func g) fs cs, .undef, .undef, .undef, .undef, .undef, .undef, .undef] Try.func58 (fun σ => ?_)
 repeat' (first | (show Ev _ _ _ _; first | refine Ev_seq ?_ | refine W_reg ?_ | refine Ev_ret ?_) | (show EvD _ _ [] _ _ _; refine W_nil ?_) | (show EvD _ _ (_ :: _) _ _ _; first | refine W_run tok ?_ ?_ | refine W_callee ?_) | (show EvC _ _ _ _ _ _ _ _ _; refine W_con ?_ ?_) | (show RetQ _ _ (RP _ _) _ _; refine R_ret ?_ ?_) | refine Q_thenN ?_ | fail)
 all_goals (try exact sd)
 all_goals (try refine F_done ?_)
 all_goals rw [← idxI_any]
instance i_HasT (xs : List DV) (g : FuncId) (fs cs : List DV) {dom : DV → Prop} {p : DV → Bool} [hp : PredC Try.prog g fs cs dom p] : Con Try.prog n_slices_ContainsFunc_s_string_string [.sl xs, .fn (.func g) fs cs] ((xs.length < 1099511627776 ∧ ∀ x ∈ xs, x.cells = [x]) ∧ ∀ x ∈ xs, dom x) (.bool (xs.any p)) :=
 ⟨c_HasT xs g fs cs⟩
theorem c_IdxQ (xs : List DV) (g : FuncId) (fs cs : List DV) {dom : DV → Prop} {p : DV → Bool} (hp : PredC Try.prog g fs cs dom p) (hC : (xs.length < 1099511627776 ∧ ∀ x ∈ xs, ∃ a b, x = .agg [a, b]) ∧ ∀ x ∈ xs, dom x) :
  Pure Try.prog n_slices_IndexFunc_s_api_Pair_api_Pair [.sl xs, .fn (.func g) fs cs] (.int .i64 (idxI p xs)) := by
 have i1 := hp.fnc
 have i2 := fun x => hp.con x
 have hle : xs.findIdx p ≤ xs.length := List.findIdx_le_length
 refine Pure.go tok (rs := [.tmp 4]) [.sl xs, .fn (.func g) fs cs, .undef, .undef, .undef, .undef, .undef, .undef, .undef, .undef, .undef, .undef, .undef, .undef, .undef, .undef, .undef, .undef, .undef] Try.func74 (fun σ => ?_)
 repeat' (first | (show Ev _ _ _ _; first | refine Ev_seq ?_ | refine W_reg ?_ | refine Ev_block ?_) | (show EvD _ _ [] _ _ _; refine W_nil ?_) | (show EvD _ _ (_ :: _) _ _ _; first | refine W_run tok ?_ ?_ (by simp (maxSteps := 1000000) (disch := omega) only [go_sem, wrap_i64_id]; with_reducible exact rfl)) | refine Q_thenN ?_ | fail)
 all_goals (try exact sd)
 all_goals (try refine F_done ?_)
 refine Ev_lp (xs.findIdx p) (fun i => [(8, i64 i)]) (fun i => σ) [4, 5, 9, 10, 11, 12, 13, 14, 15, 16, 17, 18] ?_ (by first | rfl | (simp only [List.take_zero, List.append_nil]; done)) (fun i hi => ?_)
 ·exact le1
 by_cases hi' : i < xs.findIdx p
 ·have hil : i < xs.length := by omega
  have hd := hC.2 _ (getD_mem hil)
  have hf := fi_lt hi'
  obtain ⟨xa, xb, hx0⟩ := hC.1.2 _ (getD_mem hil)
  rw [hx0] at hd hf
  have i3 := hp.con (.agg [xa, xb])
  rw [hf] at i3
  repeat' (first | (show Ev _ _ _ _; first | refine Ev_seq ?_ | refine W_reg ?_ | refine Ev_block ?_ | refine W_ifF ?_ | refine W_ifY ?_ | refine Ev_skip ?_) | (show EvD _ _ [] _ _ _; refine W_nil ?_) | (show EvD _ _ (_ :: _) _ _ _; first | refine W_run tok ?_ ?_ (by simp (maxSteps := 1000000) (disch := omega) only [go_sem, wrap_i64_id, hx0]; with_reducible exact rfl) | refine W_callee ?_) | (show EvC _ _ _ _ _ _ _ _ _; refine W_con ?_ ?_) | refine Q_thenN ?_ | refine Q_blkN ?_ | fail)
  all_goals (try exact sd)
  all_goals (try refine F_done ?_)
  refine Q_rndN ?_ (by omega) ?_
  rotate_left
  ·rfl
  repeat (first | exact LeL.nil | refine LeL.cons2 ?_ (Le.undef _) | refine LeL.cons2 ?_ (Le.refl _) | refine LeL.cons2 ?_ (Le.sl _) | refine LeL.cons2 ?_ (Le.eq (by first | rfl | exact congrArg _ (by omega))) | refine LeL.cons2 ?_ (Le.eq ?_))
 ·obtain rfl : i = xs.findIdx p := by omega
  by_cases hil : xs.findIdx p < xs.length
  ·have hd := hC.2 _ (getD_mem hil)
   have hf := fi_eq hil
   clear hi'
   generalize hj : xs.findIdx p = i at hi hf hd hil ⊢
   obtain ⟨xa, xb, hx0⟩ := hC.1.2 _ (getD_mem hil)
   rw [hx0] at hd hf
   have hk : idxI p xs = i := by unfold idxI; rw [hj, if_pos hil]
   have i3 := hp.con (.agg [xa, xb])
   rw [hf] at i3
   repeat' (first | (show Ev _ _ _ _; first | refine Ev_seq ?_ | refine W_reg ?_ | refine Ev_block ?_ | refine W_ifT ?_ | refine W_ifY ?_ | refine Ev_skip ?_ | refine Ev_ret ?_) | (show EvD _ _ [] _ _ _; refine W_nil ?_) | (show EvD _ _ (_ :: _) _ _ _; first | refine W_run tok ?_ ?_ (by simp (maxSteps := 1000000) (disch := omega) only [go_sem, wrap_i64_id, hx0]; with_reducible exact rfl) | refine W_callee ?_) | (show EvC _ _ _ _ _ _ _ _ _; refine W_con ?_ ?_) | (show RetQ _ _ (RP _ _) _ _; refine R_ret ?_ ?_) | refine Q_thenN ?_ | refine Q_thenR ?_ | refine Q_blkR ?_ | refine Q_rndR ?_ | fail)
   all_goals (try exact sd)
   all_goals (try refine F_done ?_)
   rw [hk]
  ·have hk : idxI p xs = -1 := by unfold idxI; rw [if_neg hil]
   repeat' (first | (show Ev _ _ _ _; first | refine Ev_seq ?_ | refine W_reg ?_ | refine W_ifN ?_ | refine Ev_exit ?_ | refine Ev_ret ?_) | (show EvD _ _ [] _ _ _; refine W_nil ?_) | (show EvD _ _ (_ :: _) _ _ _; first | refine W_run tok ?_ ?_ (by simp (maxSteps := 1000000) (disch := omega) only [go_sem, wrap_i64_id]; with_reducible exact rfl)) | (show RetQ _ _ (RP _ _) _ _; refine R_ret ?_ ?_) | refine Q_thenN ?_ | refine Q_thenE ?_ | refine Q_blkE ?_ | refine Q_rndE ?_ | fail)
   all_goals (try exact sd)
   all_goals (try refine F_done ?_)
   rw [hk]
instance i_IdxQ (xs : List DV) (g : FuncId) (fs cs : List DV) {dom : DV → Prop} {p : DV → Bool} [hp : PredC Try.prog g fs cs dom p] : Con Try.prog n_slices_IndexFunc_s_api_Pair_api_Pair [.sl xs, .fn (.func g) fs cs] ((xs.length < 1099511627776 ∧ ∀ x ∈ xs, ∃ a b, x = .agg [a, b]) ∧ ∀ x ∈ xs, dom x) (.int .i64 (idxI p xs)) :=
 ⟨c_IdxQ xs g fs cs hp⟩
theorem c_HasQ (xs : List DV) (g : FuncId) (fs cs : List DV) {dom : DV → Prop} {p : DV → Bool} [hp : PredC Try.prog g fs cs dom p] (hC : (xs.length < 1099511627776 ∧ ∀ x ∈ xs, ∃ a b, x = .agg [a, b]) ∧ ∀ x ∈ xs, dom x) :
  Pure Try.prog n_slices_ContainsFunc_s_api_Pair_api_Pair [.sl xs, .fn (.func g) fs cs] (.bool (xs.any p)) := by
 refine Pure.go tok (rs := [.tmp 4]) [.sl xs, .fn (.func g) fs cs, .undef, .undef, .undef, .undef, .undef, .undef, .undef] Try.func53 (fun σ => ?_)
 repeat' (first | (show Ev _ _ _ _; first | refine Ev_seq ?_ | refine W_reg ?_ | refine Ev_ret ?_) | (show EvD _ _ [] _ _ _; refine W_nil ?_) | (show EvD _ _ (_ :: _) _ _ _; first | refine W_run tok ?_ ?_ | refine W_callee ?_) | (show EvC _ _ _ _ _ _ _ _ _; refine W_con ?_ ?_) | (show RetQ _ _ (RP _ _) _ _; refine R_ret ?_ ?_) | refine Q_thenN ?_ | fail)
 all_goals (try exact sd)
 all_goals (try refine F_done ?_)
 all_goals rw [← idxI_any]
instance i_HasQ (xs : List DV) (g : FuncId) (fs cs : List DV) {dom : DV → Prop} {p : DV → Bool} [hp : PredC Try.prog g fs cs dom p] : Con Try.prog n_slices_ContainsFunc_s_api_Pair_api_Pair [.sl xs, .fn (.func g) fs cs] ((xs.length < 1099511627776 ∧ ∀ x ∈ xs, ∃ a b, x = .agg [a, b]) ∧ ∀ x ∈ xs, dom x) (.bool (xs.any p)) :=
 ⟨c_HasQ xs g fs cs⟩
abbrev keyP (s : List UInt8) : Prop := 1 ≤ s.length ∧ s.length ≤ 24
abbrev valP (s : List UInt8) : Prop := s.length ≤ 60
theorem c_node_Key (s : List UInt8) (hC : True) : Pure Try.prog n_node_Key [.str s] (.bool (decide (keyP s))) := by
 refine Pure.go tok (rs := [.tmp 2]) [.str s, .undef, .undef, .undef, .undef, .undef, .undef, .undef, .undef, .undef] Try.func26 (fun σ => ?_)
 by_cases h : s = []
 ·subst h
  repeat' (first | (show Ev _ _ _ _; first | refine Ev_seq ?_ | refine W_reg ?_ | refine Ev_ret ?_) | (show EvD _ _ [] _ _ _; refine W_nil ?_) | (show EvD _ _ (_ :: _) _ _ _; refine W_run tok ?_ ?_) | (show RetQ _ _ (RP _ _) _ _; refine R_ret ?_ ?_) | refine Q_thenN ?_ | fail)
  all_goals (try exact sd)
  all_goals (try refine F_done ?_)
  all_goals rfl
 ·have h1 : 1 ≤ s.length := List.length_pos_iff.2 h
  have hd : decide (s = []) = false := decide_eq_false h
  repeat' (first | (show Ev _ _ _ _; first | refine Ev_seq ?_ | refine W_reg ?_ | refine Ev_ret ?_) | (show EvD _ _ [] _ _ _; refine W_nil ?_) | (show EvD _ _ (_ :: _) _ _ _; first | refine W_run tok ?_ ?_ (by simp (maxSteps := 1000000) (disch := omega) only [go_sem, hd]; with_reducible exact rfl)) | (show RetQ _ _ (RP _ _) _ _; refine R_ret ?_ ?_) | refine Q_thenN ?_ | fail)
  all_goals (try exact sd)
  all_goals (try refine F_done ?_)
  all_goals (simp [h1]; try omega)
instance i_node_Key (s : List UInt8) : Con Try.prog 26 [.str s] (True) (.bool (decide (keyP s))) := ⟨c_node_Key s ⟩
theorem c_bursarref08_Key (s : List UInt8) (hC : True) : Pure Try.prog n_bursarref08_Key [.str s] (.bool (decide (keyP s))) := by
 refine Pure.go tok (rs := [.tmp 2]) [.str s, .undef, .undef, .undef, .undef, .undef, .undef, .undef, .undef, .undef, .undef] Try.func27 (fun σ => ?_)
 by_cases h : 1 ≤ s.length
 ·repeat' (first | (show Ev _ _ _ _; first | refine Ev_seq ?_ | refine W_reg ?_ | refine Ev_ret ?_) | (show EvD _ _ [] _ _ _; refine W_nil ?_) | (show EvD _ _ (⟨_, _, _, _, _, some _⟩ :: _) _ _ _; refine W_grdY ?_) | (show EvD _ _ (_ :: _) _ _ _; refine W_run tok ?_ ?_) | (show RetQ _ _ (RP _ _) _ _; refine R_ret ?_ ?_) | refine Q_thenN ?_ | fail)
  all_goals (try exact sd)
  all_goals (try refine F_done ?_)
  all_goals (simp [h]; try omega)
 ·repeat' (first | (show Ev _ _ _ _; first | refine Ev_seq ?_ | refine W_reg ?_ | refine Ev_ret ?_) | (show EvD _ _ [] _ _ _; refine W_nil ?_) | (show EvD _ _ (⟨_, _, _, _, _, some _⟩ :: _) _ _ _; refine W_grdN ?_) | (show EvD _ _ (_ :: _) _ _ _; refine W_run tok ?_ ?_) | (show RetQ _ _ (RP _ _) _ _; refine R_ret ?_ ?_) | refine Q_thenN ?_ | fail)
  all_goals (try exact sd)
  all_goals (try refine F_done ?_)
  all_goals (simp [h]; try omega)
instance i_bursarref08_Key (s : List UInt8) : Con Try.prog 27 [.str s] (True) (.bool (decide (keyP s))) := ⟨c_bursarref08_Key s ⟩
theorem c_node_Val (s : List UInt8) (hC : True) : Pure Try.prog n_node_Val [.str s] (.bool (decide (valP s))) := by
 refine Pure.go tok (rs := [.tmp 2]) [.str s, .undef, .undef, .undef, .undef, .undef] Try.func28 (fun σ => ?_)
 repeat' (first | (show Ev _ _ _ _; first | refine Ev_seq ?_ | refine W_reg ?_ | refine Ev_ret ?_) | (show EvD _ _ [] _ _ _; refine W_nil ?_) | (show EvD _ _ (_ :: _) _ _ _; refine W_run tok ?_ ?_) | (show RetQ _ _ (RP _ _) _ _; refine R_ret ?_ ?_) | refine Q_thenN ?_ | fail)
 all_goals (try exact sd)
 all_goals (try refine F_done ?_)
 all_goals (simp; try omega)
instance i_node_Val (s : List UInt8) : Con Try.prog 28 [.str s] (True) (.bool (decide (valP s))) := ⟨c_node_Val s ⟩
theorem c_bursarref08_Val (s : List UInt8) (hC : True) : Pure Try.prog n_bursarref08_Val [.str s] (.bool (decide (valP s))) := by
 refine Pure.go tok (rs := [.tmp 2]) [.str s, .undef, .undef, .undef, .undef, .undef] Try.func29 (fun σ => ?_)
 repeat' (first | (show Ev _ _ _ _; first | refine Ev_seq ?_ | refine W_reg ?_ | refine Ev_ret ?_) | (show EvD _ _ [] _ _ _; refine W_nil ?_) | (show EvD _ _ (_ :: _) _ _ _; refine W_run tok ?_ ?_) | (show RetQ _ _ (RP _ _) _ _; refine R_ret ?_ ?_) | refine Q_thenN ?_ | fail)
 all_goals (try exact sd)
 all_goals (try refine F_done ?_)
 all_goals (simp; try omega)
instance i_bursarref08_Val (s : List UInt8) : Con Try.prog 29 [.str s] (True) (.bool (decide (valP s))) := ⟨c_bursarref08_Val s ⟩
theorem c_bursarlaw08_text (s : List UInt8) (hC : s.length ≤ 140737488355328) : Pure Try.prog n_bursarlaw08_text [.str s] (.str (s.take 100)) := by
 refine Pure.go tok (rs := [.tmp 2]) [.str s, .undef, .undef, .undef, .undef, .undef, .undef, .undef, .undef] Try.func22 (fun σ => ?_)
 by_cases h : 100 < s.length
 ·repeat' (first | (show Ev _ _ _ _; first | refine Ev_seq ?_ | refine W_reg ?_ | refine W_ifY ?_ | refine Ev_ret ?_) | (show EvD _ _ [] _ _ _; refine W_nil ?_) | (show EvD _ _ (_ :: _) _ _ _; first | refine W_run tok ?_ ?_ (by simp (maxSteps := 1000000) (disch := omega) only [go_sem, List.drop_zero]; with_reducible exact rfl)) | (show RetQ _ _ (RP _ _) _ _; refine R_ret ?_ ?_) | refine Q_thenN ?_ | refine Q_thenR ?_ | fail)
  all_goals (try exact sd)
  all_goals (try refine F_done ?_)
  all_goals rfl
 ·rw [List.take_of_length_le (by omega : s.length ≤ 100)]
  repeat' (first | (show Ev _ _ _ _; first | refine Ev_seq ?_ | refine W_reg ?_ | refine W_ifN ?_ | refine Ev_skip ?_ | refine Ev_ret ?_) | (show EvD _ _ [] _ _ _; refine W_nil ?_) | (show EvD _ _ (_ :: _) _ _ _; refine W_run tok ?_ ?_) | (show RetQ _ _ (RP _ _) _ _; refine R_ret ?_ ?_) | refine Q_thenN ?_ | fail)
  all_goals (try exact sd)
  all_goals (try refine F_done ?_)
  all_goals rfl
instance i_bursarlaw08_text (s : List UInt8) : Con Try.prog 22 [.str s] (s.length ≤ 140737488355328) (.str (s.take 100)) := ⟨c_bursarlaw08_text s ⟩
theorem beN_one (n : Nat) : beN 1 n = [UInt8.ofNat n] := by rw [beN_back, beN_zero]; rfl
theorem c_node_text (s : List UInt8) (hC : s.length ≤ 1000) : PureApp Try.prog n_node_text [.str s] (bytes (UInt8.ofNat s.length :: s)) 5 1 1099511627776 := by
 refine PureApp.go tok (rs := [.tmp 4]) (fun id len => [.row id len, .str s, .undef, .undef, .undef, .undef, .undef, .undef, .undef, .undef, .undef, .undef, .undef]) Try.func50 (fun σ id xs hR hroom => ?_)
 have hid := (List.getElem?_eq_some_iff.1 hR).1
 have gs : ∀ x, (σ.rows.set id x)[id]? = some x := fun x => List.getElem?_set_self hid
 repeat' (first | (show Ev _ _ _ _; first | refine Ev_seq ?_ | refine W_reg ?_ | refine Ev_ret ?_) | (show EvD _ _ [] _ _ _; refine W_nil ?_) | (show EvD _ _ (_ :: _) _ _ _; first | refine W_run tok ?_ ?_ (by simp (maxSteps := 1000000) (disch := omega) only [go_sem, hR, gs]; with_reducible exact rfl)) | refine Q_thenN ?_ | fail)
 all_goals (try exact sd)
 all_goals (try refine F_done ?_)
 rw [List.set_set, u8_nat]
 have e : xs ++ DV.int .u8 ((UInt8.ofNat s.length).toNat : Int) :: bytes s = xs ++ bytes (UInt8.ofNat s.length :: s) := rfl
 rw [e, show xs.length + 1 + s.length = xs.length + (bytes (UInt8.ofNat s.length :: s)).length by rw [bytes_len, List.length_cons]; omega]
 refine R_app rfl ?_ rfl (fun ws h => h ▸ Grew_refl _)
 exact trivial
instance i_node_text (s : List UInt8) : ConApp Try.prog 50 [.str s] (s.length ≤ 1000) (bytes (UInt8.ofNat s.length :: s)) (5) (1) (1099511627776) := ⟨c_node_text s ⟩
theorem c_bursarref05_Wide (n w : Nat) (hC : n < 18446744073709551616 ∧ w ≤ 8) : Pure Try.prog n_bursarref05_Wide [.int .u64 n, .int .i64 w] (.str (beN w n)) := by
 refine Pure.go tok (rs := [.tmp 4]) [.int .u64 n, .int .i64 w, .undef, .undef, .undef, .undef, .undef, .undef, .undef, .undef, .undef, .undef, .undef, .undef, .undef, .undef, .undef, .undef, .undef, .undef, .undef, .undef] Try.func63 (fun σ => ?_)
 repeat' (first | (show Ev _ _ _ _; first | refine Ev_seq ?_ | refine W_reg ?_ | refine Ev_block ?_) | (show EvD _ _ [] _ _ _; refine W_nil ?_) | (show EvD _ _ (_ :: _) _ _ _; first | refine W_run tok ?_ ?_ (by simp (maxSteps := 1000000) (disch := omega) only [go_sem, wrap_i64_id]; with_reducible exact rfl)) | refine Q_thenN ?_ | fail)
 all_goals (try exact sd)
 all_goals (try refine F_done ?_)
 refine Ev_lp (w) (fun i => [(0, .int .u64 (n / 256 ^ i : Nat)), (5, .str (beN i n)), (6, i64 i)]) (fun i => σ) [7, 8, 9, 10, 11, 12, 13, 14, 15, 16, 17, 18, 19, 20] ?_ (by first | rfl | (simp only [List.take_zero, List.append_nil]; done)) (fun i hi => ?_)
 ·exact le1
 by_cases hi' : i < w
 ·have hd : n / 256 ^ i < 18446744073709551616 := Nat.lt_of_le_of_lt (Nat.div_le_self _ _) hC.1
  have hl := beN_len i n
  have hf := beN_front i n
  have hp : n / 256 ^ (i + 1) = n / 256 ^ i / 256 := by rw [Nat.pow_succ, ← Nat.div_div_eq_div_mul]
  generalize n / 256 ^ i = m at hd hf hp ⊢
  repeat' (first | (show Ev _ _ _ _; first | refine Ev_seq ?_ | refine W_reg ?_ | refine Ev_block ?_ | refine W_ifY ?_ | refine Ev_skip ?_) | (show EvD _ _ [] _ _ _; refine W_nil ?_) | (show EvD _ _ (_ :: _) _ _ _; first | refine W_run tok ?_ ?_ (by simp (maxSteps := 1000000) (disch := omega) only [go_sem, wrap_i64_id, tmod256, tdiv256, u8_nat, ofNat_mod, wrap_u64_id]; with_reducible exact rfl)) | refine Q_thenN ?_ | refine Q_blkN ?_ | fail)
  all_goals (try exact sd)
  all_goals (try refine F_done ?_)
  refine Q_rndN ?_ (by omega) ?_
  rotate_left
  ·rfl
  repeat (first | exact LeL.nil | refine LeL.cons2 ?_ (Le.undef _) | refine LeL.cons2 ?_ (Le.refl _) | refine LeL.cons2 ?_ (Le.sl _) | refine LeL.cons2 ?_ (Le.eq (by first | rfl | exact congrArg _ (by omega))) | refine LeL.cons2 ?_ (Le.eq ?_))
  rw [hf]
 ·obtain rfl : i = w := by omega
  repeat' (first | (show Ev _ _ _ _; first | refine Ev_seq ?_ | refine W_reg ?_ | refine W_ifN ?_ | refine Ev_exit ?_ | refine Ev_ret ?_) | (show EvD _ _ [] _ _ _; refine W_nil ?_) | (show EvD _ _ (_ :: _) _ _ _; first | refine W_run tok ?_ ?_ (by simp (maxSteps := 1000000) (disch := omega) only [go_sem, wrap_i64_id]; with_reducible exact rfl)) | (show RetQ _ _ (RP _ _) _ _; refine R_ret ?_ ?_) | refine Q_thenN ?_ | refine Q_thenE ?_ | refine Q_blkE ?_ | refine Q_rndE ?_ | fail)
  all_goals (try exact sd)
  all_goals (try refine F_done ?_)
  all_goals (try first | rfl | (exfalso; omega) | (simp only [DV.bool.injEq, DV.int.injEq, DV.str.injEq, DV.sl.injEq, DV.agg.injEq, DV.tup.injEq, List.cons.injEq, decide_eq_decide, decide_eq_true_eq, decide_eq_false_iff_not, true_and, and_true]; first | done | omega) | (simp; first | done | omega))
instance i_bursarref05_Wide (n w : Nat) : Con Try.prog 63 [.int .u64 n, .int .i64 w] (n < 18446744073709551616 ∧ w ≤ 8) (.str (beN w n)) := ⟨c_bursarref05_Wide n w ⟩
instance i_Wide (n w : Int) : Con Try.prog n_bursarref05_Wide [.int .u64 n, .int .i64 w] (0 ≤ n ∧ n < 18446744073709551616 ∧ 0 ≤ w ∧ w ≤ 8) (.str (beN w.toNat n.toNat)) :=
 ⟨fun h => by
  have := c_bursarref05_Wide n.toNat w.toNat (by omega)
  rwa [show ((n.toNat : Nat) : Int) = n by omega, show ((w.toNat : Nat) : Int) = w by omega] at this⟩
theorem c_bursarref08_text (s : List UInt8) (hC : s.length ≤ 255) : Pure Try.prog n_bursarref08_text [.str s] (.str (UInt8.ofNat s.length :: s)) := by
 refine Pure.go tok (rs := [.tmp 2]) [.str s, .undef, .undef, .undef, .undef, .undef, .undef, .undef, .undef] Try.func64 (fun σ => ?_)
 repeat' (first | (show Ev _ _ _ _; first | refine Ev_seq ?_ | refine W_reg ?_ | refine Ev_ret ?_) | (show EvD _ _ [] _ _ _; refine W_nil ?_) | (show EvD _ _ (_ :: _) _ _ _; first | refine W_run tok ?_ ?_ (by simp (maxSteps := 1000000) (disch := omega) only [go_sem, wrap_u64_id]; with_reducible exact rfl) | refine W_callee ?_) | (show EvC _ _ _ _ _ _ _ _ _; refine W_con ?_ ?_) | (show RetQ _ _ (RP _ _) _ _; refine R_ret ?_ ?_) | refine Q_thenN ?_ | fail)
 all_goals (try exact sd)
 all_goals (try refine F_done ?_)
 all_goals (try simp [beN_one])
instance i_bursarref08_text (s : List UInt8) : Con Try.prog 64 [.str s] (s.length ≤ 255) (.str (UInt8.ofNat s.length :: s)) := ⟨c_bursarref08_text s ⟩
end Go.Val.Ytgjmpefhjdgkoaa
