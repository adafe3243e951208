/- Chapter 04: whether disks may be, walked. -/
import Derived.Test.YtlfnmgmbmgacgaaK03
import Derived.Test.YtlfnmgmbmgacgaaVM6
namespace Go.Val.Ytlfnmgmbmgacgaa
open Go Go.Val Go.Proofs Go.Proofs.Ytlfnmgmbmgacgaa
attribute [local irreducible] Ev EvD EvC thenQ blockQ RoundG RetQ
set_option maxRecDepth 100000
set_option maxHeartbeats 4000000
set_option linter.unusedSimpArgs false
set_option linter.unusedVariables false
def secD (b : List UInt8) : DV := .sl (bytes b)
def pendD (p : Int × List UInt8) : DV := .agg [.int .i64 p.1, .sl (bytes p.2)]
def secs (S : List (List UInt8)) : List DV := S.map secD
def pends (W : List (Int × List UInt8)) : List DV := W.map pendD
abbrev diskD (S : List (List UInt8)) (W : List (Int × List UInt8)) (L : Int) (O : Bool) : DV := .agg [.sl (secs S), .sl (pends W), .int .i64 L, .bool O]
theorem secs_len (S : List (List UInt8)) : (secs S).length = S.length := by simp [secs]
theorem pends_len (W : List (Int × List UInt8)) : (pends W).length = W.length := by simp [pends]
theorem secs_allw (S : List (List UInt8)) : (∀ x ∈ secs S, x.cells.length = 1) = True := by simp [secs, secD, DV.cells]
theorem pends_allw (W : List (Int × List UInt8)) : (∀ x ∈ pends W, x.cells.length = 2) = True := by
 simp only [pends, eq_iff_iff, iff_true]; intro x hx; obtain ⟨p, _, rfl⟩ := List.mem_map.1 hx; rfl
theorem secs_named (r b m : Nat) (S : List (List UInt8)) : nameds r b m (secs S) = true := by
 rw [nameds_iff]; intro c hc; simp only [secs, List.mem_map] at hc; obtain ⟨x, _, rfl⟩ := hc; simp only [secD, DV.named]; exact bytes_named _ _ _ _
theorem pends_named (r b m : Nat) (W : List (Int × List UInt8)) : nameds r b m (pends W) = true := by
 rw [nameds_iff]; intro c hc; simp only [pends, List.mem_map] at hc; obtain ⟨x, _, rfl⟩ := hc; simp [pendD, DV.named, nameds, bytes_named]
theorem secs_get {S : List (List UInt8)} {i : Nat} (h : i < S.length) : (secs S).getD i .undef = .sl (bytes (S.getD i [])) := by
 simp [secs, List.getD_eq_getElem?_getD, List.getElem?_map, List.getElem?_eq_getElem h, secD]
theorem pends_get {W : List (Int × List UInt8)} {i : Nat} (h : i < W.length) : (pends W).getD i .undef = .agg [.int .i64 (W.getD i (0, [])).1, .sl (bytes (W.getD i (0, [])).2)] := by
 simp [pends, List.getD_eq_getElem?_getD, List.getElem?_map, List.getElem?_eq_getElem h, pendD]
attribute [go_sem] secs_len pends_len secs_allw pends_allw secs_named pends_named
theorem c_IdxS (xs : List DV) (g : FuncId) (fs cs : List DV) {dom : DV → Prop} {p : DV → Bool} (hp : PredC Try.prog g fs cs dom p) (hC : (xs.length < 1099511627776 ∧ ∀ x ∈ xs, x.cells = [x]) ∧ ∀ x ∈ xs, dom x) :
  Pure Try.prog n_slices_IndexFunc_s_s_byte_s_byte [.sl xs, .fn (.func g) fs cs] (.int .i64 (idxI p xs)) := by
 have i1 := hp.fnc
 have i2 := fun x => hp.con x
 have hle : xs.findIdx p ≤ xs.length := List.findIdx_le_length
 refine Pure.go tok (rs := [.tmp 4]) [.sl xs, .fn (.func g) fs cs, .undef, .undef, .undef, .undef, .undef, .undef, .undef, .undef, .undef, .undef, .undef, .undef, .undef, .undef, .undef, .undef, .undef] Try.func70 (fun σ => ?_)
 repeat' (first | (show Ev _ _ _ _; first | refine Ev_seq ?_ | refine W_reg ?_ | refine Ev_block ?_) | (show EvD _ _ [] _ _ _; refine W_nil ?_) | (show EvD _ _ (_ :: _) _ _ _; first | refine W_run tok ?_ ?_ (by simp (maxSteps := 1000000) (disch := omega) only [go_sem, wrap_i64_id]; with_reducible exact rfl)) | refine Q_thenN ?_ | fail)
 all_goals (try exact sd)
 all_goals (try refine F_done ?_)
 refine Ev_lp (xs.findIdx p) (fun i => [(8, i64 i)]) (fun i => σ) [4, 5, 9, 10, 11, 12, 13, 14, 15, 16, 17, 18] ?_ (by first | rfl | (simp only [List.take_zero, List.append_nil]; done)) (fun i hi => ?_)
 ·exact le1
 by_cases hi' : i < xs.findIdx p
 ·have hil : i < xs.length := by omega
  have hd := hC.2 _ (getD_mem hil)
  have hf := fi_lt hi'
  have hx0 : (xs.getD i .undef).cells = [xs.getD i .undef] := hC.1.2 _ (getD_mem hil)
  have i3 := hp.con (xs.getD i .undef)
  rw [hf] at i3
  repeat' (first | (show Ev _ _ _ _; first | refine Ev_seq ?_ | refine W_reg ?_ | refine Ev_block ?_ | refine W_ifF ?_ | refine W_ifY ?_ | refine Ev_skip ?_) | (show EvD _ _ [] _ _ _; refine W_nil ?_) | (show EvD _ _ (_ :: _) _ _ _; first | refine W_run tok ?_ ?_ (by simp (maxSteps := 1000000) (disch := omega) only [go_sem, wrap_i64_id, hx0]; with_reducible exact rfl) | refine W_callee ?_) | (show EvC _ _ _ _ _ _ _ _ _; refine W_con ?_ ?_) | refine Q_thenN ?_ | refine Q_blkN ?_ | fail)
  all_goals (try exact sd)
  all_goals (try refine F_done ?_)
  refine Q_rndN ?_ (by omega) ?_
  rotate_left
  ·rfl
  repeat (first | exact LeL.nil | refine LeL.cons2 ?_ (Le.undef _) | refine LeL.cons2 ?_ (Le.refl _) | refine LeL.cons2 ?_ (Le.sl _) | refine LeL.cons2 ?_ (Le.eq (by first | rfl | exact congrArg _ (by omega))) | refine LeL.cons2 ?_ (Le.eq ?_))
 ·obtain rfl : i = xs.findIdx p := by omega
  by_cases hil : xs.findIdx p < xs.length
  ·have hd := hC.2 _ (getD_mem hil)
   have hf := fi_eq hil
   clear hi'
   generalize hj : xs.findIdx p = i at hi hf hd hil ⊢
   have hx0 : (xs.getD i .undef).cells = [xs.getD i .undef] := hC.1.2 _ (getD_mem hil)
   have hk : idxI p xs = i := by unfold idxI; rw [hj, if_pos hil]
   have i3 := hp.con (xs.getD i .undef)
   rw [hf] at i3
   repeat' (first | (show Ev _ _ _ _; first | refine Ev_seq ?_ | refine W_reg ?_ | refine Ev_block ?_ | refine W_ifT ?_ | refine W_ifY ?_ | refine Ev_skip ?_ | refine Ev_ret ?_) | (show EvD _ _ [] _ _ _; refine W_nil ?_) | (show EvD _ _ (_ :: _) _ _ _; first | refine W_run tok ?_ ?_ (by simp (maxSteps := 1000000) (disch := omega) only [go_sem, wrap_i64_id, hx0]; with_reducible exact rfl) | refine W_callee ?_) | (show EvC _ _ _ _ _ _ _ _ _; refine W_con ?_ ?_) | (show RetQ _ _ (RP _ _) _ _; refine R_ret ?_ ?_) | refine Q_thenN ?_ | refine Q_thenR ?_ | refine Q_blkR ?_ | refine Q_rndR ?_ | fail)
   all_goals (try exact sd)
   all_goals (try refine F_done ?_)
   rw [hk]
  ·have hk : idxI p xs = -1 := by unfold idxI; rw [if_neg hil]
   repeat' (first | (show Ev _ _ _ _; first | refine Ev_seq ?_ | refine W_reg ?_ | refine W_ifN ?_ | refine Ev_exit ?_ | refine Ev_ret ?_) | (show EvD _ _ [] _ _ _; refine W_nil ?_) | (show EvD _ _ (_ :: _) _ _ _; first | refine W_run tok ?_ ?_ (by simp (maxSteps := 1000000) (disch := omega) only [go_sem, wrap_i64_id]; with_reducible exact rfl)) | (show RetQ _ _ (RP _ _) _ _; refine R_ret ?_ ?_) | refine Q_thenN ?_ | refine Q_thenE ?_ | refine Q_blkE ?_ | refine Q_rndE ?_ | fail)
   all_goals (try exact sd)
   all_goals (try refine F_done ?_)
   rw [hk]
instance i_IdxS (xs : List DV) (g : FuncId) (fs cs : List DV) {dom : DV → Prop} {p : DV → Bool} [hp : PredC Try.prog g fs cs dom p] : Con Try.prog n_slices_IndexFunc_s_s_byte_s_byte [.sl xs, .fn (.func g) fs cs] ((xs.length < 1099511627776 ∧ ∀ x ∈ xs, x.cells = [x]) ∧ ∀ x ∈ xs, dom x) (.int .i64 (idxI p xs)) :=
 ⟨c_IdxS xs g fs cs hp⟩
theorem c_HasS (xs : List DV) (g : FuncId) (fs cs : List DV) {dom : DV → Prop} {p : DV → Bool} [hp : PredC Try.prog g fs cs dom p] (hC : (xs.length < 1099511627776 ∧ ∀ x ∈ xs, x.cells = [x]) ∧ ∀ x ∈ xs, dom x) :
  Pure Try.prog n_slices_ContainsFunc_s_s_byte_s_byte [.sl xs, .fn (.func g) fs cs] (.bool (xs.any p)) := by
 refine Pure.go tok (rs := [.tmp 4]) [.sl xs, .fn (.func g) fs cs, .undef, .undef, .undef, .undef, .undef, .undef, .undef] Try.func57 (fun σ => ?_)
 repeat' (first | (show Ev _ _ _ _; first | refine Ev_seq ?_ | refine W_reg ?_ | refine Ev_ret ?_) | (show EvD _ _ [] _ _ _; refine W_nil ?_) | (show EvD _ _ (_ :: _) _ _ _; first | refine W_run tok ?_ ?_ | refine W_callee ?_) | (show EvC _ _ _ _ _ _ _ _ _; refine W_con ?_ ?_) | (show RetQ _ _ (RP _ _) _ _; refine R_ret ?_ ?_) | refine Q_thenN ?_ | fail)
 all_goals (try exact sd)
 all_goals (try refine F_done ?_)
 all_goals rw [← idxI_any]
instance i_HasS (xs : List DV) (g : FuncId) (fs cs : List DV) {dom : DV → Prop} {p : DV → Bool} [hp : PredC Try.prog g fs cs dom p] : Con Try.prog n_slices_ContainsFunc_s_s_byte_s_byte [.sl xs, .fn (.func g) fs cs] ((xs.length < 1099511627776 ∧ ∀ x ∈ xs, x.cells = [x]) ∧ ∀ x ∈ xs, dom x) (.bool (xs.any p)) :=
 ⟨c_HasS xs g fs cs⟩
theorem c_IdxB (xs : List DV) (g : FuncId) (fs cs : List DV) {dom : DV → Prop} {p : DV → Bool} (hp : PredC Try.prog g fs cs dom p) (hC : (xs.length < 1099511627776 ∧ ∀ x ∈ xs, x.cells = [x]) ∧ ∀ x ∈ xs, dom x) :
  Pure Try.prog n_slices_IndexFunc_s_byte_byte [.sl xs, .fn (.func g) fs cs] (.int .i64 (idxI p xs)) := by
 have i1 := hp.fnc
 have i2 := fun x => hp.con x
 have hle : xs.findIdx p ≤ xs.length := List.findIdx_le_length
 refine Pure.go tok (rs := [.tmp 4]) [.sl xs, .fn (.func g) fs cs, .undef, .undef, .undef, .undef, .undef, .undef, .undef, .undef, .undef, .undef, .undef, .undef, .undef, .undef, .undef, .undef, .undef] Try.func77 (fun σ => ?_)
 repeat' (first | (show Ev _ _ _ _; first | refine Ev_seq ?_ | refine W_reg ?_ | refine Ev_block ?_) | (show EvD _ _ [] _ _ _; refine W_nil ?_) | (show EvD _ _ (_ :: _) _ _ _; first | refine W_run tok ?_ ?_ (by simp (maxSteps := 1000000) (disch := omega) only [go_sem, wrap_i64_id]; with_reducible exact rfl)) | refine Q_thenN ?_ | fail)
 all_goals (try exact sd)
 all_goals (try refine F_done ?_)
 refine Ev_lp (xs.findIdx p) (fun i => [(8, i64 i)]) (fun i => σ) [4, 5, 9, 10, 11, 12, 13, 14, 15, 16, 17, 18] ?_ (by first | rfl | (simp only [List.take_zero, List.append_nil]; done)) (fun i hi => ?_)
 ·exact le1
 by_cases hi' : i < xs.findIdx p
 ·have hil : i < xs.length := by omega
  have hd := hC.2 _ (getD_mem hil)
  have hf := fi_lt hi'
  have hx0 : (xs.getD i .undef).cells = [xs.getD i .undef] := hC.1.2 _ (getD_mem hil)
  have i3 := hp.con (xs.getD i .undef)
  rw [hf] at i3
  repeat' (first | (show Ev _ _ _ _; first | refine Ev_seq ?_ | refine W_reg ?_ | refine Ev_block ?_ | refine W_ifF ?_ | refine W_ifY ?_ | refine Ev_skip ?_) | (show EvD _ _ [] _ _ _; refine W_nil ?_) | (show EvD _ _ (_ :: _) _ _ _; first | refine W_run tok ?_ ?_ (by simp (maxSteps := 1000000) (disch := omega) only [go_sem, wrap_i64_id, hx0]; with_reducible exact rfl) | refine W_callee ?_) | (show EvC _ _ _ _ _ _ _ _ _; refine W_con ?_ ?_) | refine Q_thenN ?_ | refine Q_blkN ?_ | fail)
  all_goals (try exact sd)
  all_goals (try refine F_done ?_)
  refine Q_rndN ?_ (by omega) ?_
  rotate_left
  ·rfl
  repeat (first | exact LeL.nil | refine LeL.cons2 ?_ (Le.undef _) | refine LeL.cons2 ?_ (Le.refl _) | refine LeL.cons2 ?_ (Le.sl _) | refine LeL.cons2 ?_ (Le.eq (by first | rfl | exact congrArg _ (by omega))) | refine LeL.cons2 ?_ (Le.eq ?_))
 ·obtain rfl : i = xs.findIdx p := by omega
  by_cases hil : xs.findIdx p < xs.length
  ·have hd := hC.2 _ (getD_mem hil)
   have hf := fi_eq hil
   clear hi'
   generalize hj : xs.findIdx p = i at hi hf hd hil ⊢
   have hx0 : (xs.getD i .undef).cells = [xs.getD i .undef] := hC.1.2 _ (getD_mem hil)
   have hk : idxI p xs = i := by unfold idxI; rw [hj, if_pos hil]
   have i3 := hp.con (xs.getD i .undef)
   rw [hf] at i3
   repeat' (first | (show Ev _ _ _ _; first | refine Ev_seq ?_ | refine W_reg ?_ | refine Ev_block ?_ | refine W_ifT ?_ | refine W_ifY ?_ | refine Ev_skip ?_ | refine Ev_ret ?_) | (show EvD _ _ [] _ _ _; refine W_nil ?_) | (show EvD _ _ (_ :: _) _ _ _; first | refine W_run tok ?_ ?_ (by simp (maxSteps := 1000000) (disch := omega) only [go_sem, wrap_i64_id, hx0]; with_reducible exact rfl) | refine W_callee ?_) | (show EvC _ _ _ _ _ _ _ _ _; refine W_con ?_ ?_) | (show RetQ _ _ (RP _ _) _ _; refine R_ret ?_ ?_) | refine Q_thenN ?_ | refine Q_thenR ?_ | refine Q_blkR ?_ | refine Q_rndR ?_ | fail)
   all_goals (try exact sd)
   all_goals (try refine F_done ?_)
   rw [hk]
  ·have hk : idxI p xs = -1 := by unfold idxI; rw [if_neg hil]
   repeat' (first | (show Ev _ _ _ _; first | refine Ev_seq ?_ | refine W_reg ?_ | refine W_ifN ?_ | refine Ev_exit ?_ | refine Ev_ret ?_) | (show EvD _ _ [] _ _ _; refine W_nil ?_) | (show EvD _ _ (_ :: _) _ _ _; first | refine W_run tok ?_ ?_ (by simp (maxSteps := 1000000) (disch := omega) only [go_sem, wrap_i64_id]; with_reducible exact rfl)) | (show RetQ _ _ (RP _ _) _ _; refine R_ret ?_ ?_) | refine Q_thenN ?_ | refine Q_thenE ?_ | refine Q_blkE ?_ | refine Q_rndE ?_ | fail)
   all_goals (try exact sd)
   all_goals (try refine F_done ?_)
   rw [hk]
instance i_IdxB (xs : List DV) (g : FuncId) (fs cs : List DV) {dom : DV → Prop} {p : DV → Bool} [hp : PredC Try.prog g fs cs dom p] : Con Try.prog n_slices_IndexFunc_s_byte_byte [.sl xs, .fn (.func g) fs cs] ((xs.length < 1099511627776 ∧ ∀ x ∈ xs, x.cells = [x]) ∧ ∀ x ∈ xs, dom x) (.int .i64 (idxI p xs)) :=
 ⟨c_IdxB xs g fs cs hp⟩
theorem c_HasB (xs : List DV) (g : FuncId) (fs cs : List DV) {dom : DV → Prop} {p : DV → Bool} [hp : PredC Try.prog g fs cs dom p] (hC : (xs.length < 1099511627776 ∧ ∀ x ∈ xs, x.cells = [x]) ∧ ∀ x ∈ xs, dom x) :
  Pure Try.prog n_slices_ContainsFunc_s_byte_byte [.sl xs, .fn (.func g) fs cs] (.bool (xs.any p)) := by
 refine Pure.go tok (rs := [.tmp 4]) [.sl xs, .fn (.func g) fs cs, .undef, .undef, .undef, .undef, .undef, .undef, .undef] Try.func74 (fun σ => ?_)
 repeat' (first | (show Ev _ _ _ _; first | refine Ev_seq ?_ | refine W_reg ?_ | refine Ev_ret ?_) | (show EvD _ _ [] _ _ _; refine W_nil ?_) | (show EvD _ _ (_ :: _) _ _ _; first | refine W_run tok ?_ ?_ | refine W_callee ?_) | (show EvC _ _ _ _ _ _ _ _ _; refine W_con ?_ ?_) | (show RetQ _ _ (RP _ _) _ _; refine R_ret ?_ ?_) | refine Q_thenN ?_ | fail)
 all_goals (try exact sd)
 all_goals (try refine F_done ?_)
 all_goals rw [← idxI_any]
instance i_HasB (xs : List DV) (g : FuncId) (fs cs : List DV) {dom : DV → Prop} {p : DV → Bool} [hp : PredC Try.prog g fs cs dom p] : Con Try.prog n_slices_ContainsFunc_s_byte_byte [.sl xs, .fn (.func g) fs cs] ((xs.length < 1099511627776 ∧ ∀ x ∈ xs, x.cells = [x]) ∧ ∀ x ∈ xs, dom x) (.bool (xs.any p)) :=
 ⟨c_HasB xs g fs cs⟩
theorem c_IdxP (xs : List DV) (g : FuncId) (fs cs : List DV) {dom : DV → Prop} {p : DV → Bool} (hp : PredC Try.prog g fs cs dom p) (hC : (xs.length < 1099511627776 ∧ ∀ x ∈ xs, ∃ a b, x = .agg [a, b]) ∧ ∀ x ∈ xs, dom x) :
  Pure Try.prog n_slices_IndexFunc_s_api_Pending_api_Pending [.sl xs, .fn (.func g) fs cs] (.int .i64 (idxI p xs)) := by
 have i1 := hp.fnc
 have i2 := fun x => hp.con x
 have hle : xs.findIdx p ≤ xs.length := List.findIdx_le_length
 refine Pure.go tok (rs := [.tmp 4]) [.sl xs, .fn (.func g) fs cs, .undef, .undef, .undef, .undef, .undef, .undef, .undef, .undef, .undef, .undef, .undef, .undef, .undef, .undef, .undef, .undef, .undef] Try.func71 (fun σ => ?_)
 repeat' (first | (show Ev _ _ _ _; first | refine Ev_seq ?_ | refine W_reg ?_ | refine Ev_block ?_) | (show EvD _ _ [] _ _ _; refine W_nil ?_) | (show EvD _ _ (_ :: _) _ _ _; first | refine W_run tok ?_ ?_ (by simp (maxSteps := 1000000) (disch := omega) only [go_sem, wrap_i64_id]; with_reducible exact rfl)) | refine Q_thenN ?_ | fail)
 all_goals (try exact sd)
 all_goals (try refine F_done ?_)
 refine Ev_lp (xs.findIdx p) (fun i => [(8, i64 i)]) (fun i => σ) [4, 5, 9, 10, 11, 12, 13, 14, 15, 16, 17, 18] ?_ (by first | rfl | (simp only [List.take_zero, List.append_nil]; done)) (fun i hi => ?_)
 ·exact le1
 by_cases hi' : i < xs.findIdx p
 ·have hil : i < xs.length := by omega
  have hd := hC.2 _ (getD_mem hil)
  have hf := fi_lt hi'
  obtain ⟨xa, xb, hx0⟩ := hC.1.2 _ (getD_mem hil)
  rw [hx0] at hd hf
  have i3 := hp.con (.agg [xa, xb])
  rw [hf] at i3
  repeat' (first | (show Ev _ _ _ _; first | refine Ev_seq ?_ | refine W_reg ?_ | refine Ev_block ?_ | refine W_ifF ?_ | refine W_ifY ?_ | refine Ev_skip ?_) | (show EvD _ _ [] _ _ _; refine W_nil ?_) | (show EvD _ _ (_ :: _) _ _ _; first | refine W_run tok ?_ ?_ (by simp (maxSteps := 1000000) (disch := omega) only [go_sem, wrap_i64_id, hx0]; with_reducible exact rfl) | refine W_callee ?_) | (show EvC _ _ _ _ _ _ _ _ _; refine W_con ?_ ?_) | refine Q_thenN ?_ | refine Q_blkN ?_ | fail)
  all_goals (try exact sd)
  all_goals (try refine F_done ?_)
  refine Q_rndN ?_ (by omega) ?_
  rotate_left
  ·rfl
  repeat (first | exact LeL.nil | refine LeL.cons2 ?_ (Le.undef _) | refine LeL.cons2 ?_ (Le.refl _) | refine LeL.cons2 ?_ (Le.sl _) | refine LeL.cons2 ?_ (Le.eq (by first | rfl | exact congrArg _ (by omega))) | refine LeL.cons2 ?_ (Le.eq ?_))
 ·obtain rfl : i = xs.findIdx p := by omega
  by_cases hil : xs.findIdx p < xs.length
  ·have hd := hC.2 _ (getD_mem hil)
   have hf := fi_eq hil
   clear hi'
   generalize hj : xs.findIdx p = i at hi hf hd hil ⊢
   obtain ⟨xa, xb, hx0⟩ := hC.1.2 _ (getD_mem hil)
   rw [hx0] at hd hf
   have hk : idxI p xs = i := by unfold idxI; rw [hj, if_pos hil]
   have i3 := hp.con (.agg [xa, xb])
   rw [hf] at i3
   repeat' (first | (show Ev _ _ _ _; first | refine Ev_seq ?_ | refine W_reg ?_ | refine Ev_block ?_ | refine W_ifT ?_ | refine W_ifY ?_ | refine Ev_skip ?_ | refine Ev_ret ?_) | (show EvD _ _ [] _ _ _; refine W_nil ?_) | (show EvD _ _ (_ :: _) _ _ _; first | refine W_run tok ?_ ?_ (by simp (maxSteps := 1000000) (disch := omega) only [go_sem, wrap_i64_id, hx0]; with_reducible exact rfl) | refine W_callee ?_) | (show EvC _ _ _ _ _ _ _ _ _; refine W_con ?_ ?_) | (show RetQ _ _ (RP _ _) _ _; refine R_ret ?_ ?_) | refine Q_thenN ?_ | refine Q_thenR ?_ | refine Q_blkR ?_ | refine Q_rndR ?_ | fail)
   all_goals (try exact sd)
   all_goals (try refine F_done ?_)
   rw [hk]
  ·have hk : idxI p xs = -1 := by unfold idxI; rw [if_neg hil]
   repeat' (first | (show Ev _ _ _ _; first | refine Ev_seq ?_ | refine W_reg ?_ | refine W_ifN ?_ | refine Ev_exit ?_ | refine Ev_ret ?_) | (show EvD _ _ [] _ _ _; refine W_nil ?_) | (show EvD _ _ (_ :: _) _ _ _; first | refine W_run tok ?_ ?_ (by simp (maxSteps := 1000000) (disch := omega) only [go_sem, wrap_i64_id]; with_reducible exact rfl)) | (show RetQ _ _ (RP _ _) _ _; refine R_ret ?_ ?_) | refine Q_thenN ?_ | refine Q_thenE ?_ | refine Q_blkE ?_ | refine Q_rndE ?_ | fail)
   all_goals (try exact sd)
   all_goals (try refine F_done ?_)
   rw [hk]
instance i_IdxP (xs : List DV) (g : FuncId) (fs cs : List DV) {dom : DV → Prop} {p : DV → Bool} [hp : PredC Try.prog g fs cs dom p] : Con Try.prog n_slices_IndexFunc_s_api_Pending_api_Pending [.sl xs, .fn (.func g) fs cs] ((xs.length < 1099511627776 ∧ ∀ x ∈ xs, ∃ a b, x = .agg [a, b]) ∧ ∀ x ∈ xs, dom x) (.int .i64 (idxI p xs)) :=
 ⟨c_IdxP xs g fs cs hp⟩
theorem c_HasP (xs : List DV) (g : FuncId) (fs cs : List DV) {dom : DV → Prop} {p : DV → Bool} [hp : PredC Try.prog g fs cs dom p] (hC : (xs.length < 1099511627776 ∧ ∀ x ∈ xs, ∃ a b, x = .agg [a, b]) ∧ ∀ x ∈ xs, dom x) :
  Pure Try.prog n_slices_ContainsFunc_s_api_Pending_api_Pending [.sl xs, .fn (.func g) fs cs] (.bool (xs.any p)) := by
 refine Pure.go tok (rs := [.tmp 4]) [.sl xs, .fn (.func g) fs cs, .undef, .undef, .undef, .undef, .undef, .undef, .undef] Try.func59 (fun σ => ?_)
 repeat' (first | (show Ev _ _ _ _; first | refine Ev_seq ?_ | refine W_reg ?_ | refine Ev_ret ?_) | (show EvD _ _ [] _ _ _; refine W_nil ?_) | (show EvD _ _ (_ :: _) _ _ _; first | refine W_run tok ?_ ?_ | refine W_callee ?_) | (show EvC _ _ _ _ _ _ _ _ _; refine W_con ?_ ?_) | (show RetQ _ _ (RP _ _) _ _; refine R_ret ?_ ?_) | refine Q_thenN ?_ | fail)
 all_goals (try exact sd)
 all_goals (try refine F_done ?_)
 all_goals rw [← idxI_any]
instance i_HasP (xs : List DV) (g : FuncId) (fs cs : List DV) {dom : DV → Prop} {p : DV → Bool} [hp : PredC Try.prog g fs cs dom p] : Con Try.prog n_slices_ContainsFunc_s_api_Pending_api_Pending [.sl xs, .fn (.func g) fs cs] ((xs.length < 1099511627776 ∧ ∀ x ∈ xs, ∃ a b, x = .agg [a, b]) ∧ ∀ x ∈ xs, dom x) (.bool (xs.any p)) :=
 ⟨c_HasP xs g fs cs⟩
end Go.Val.Ytlfnmgmbmgacgaa
