/- Chapter 04: what waits is done, walked. -/
import Derived.Test.YtlfnmgmbmgacgaaD04c
namespace Go.Val.Ytlfnmgmbmgacgaa
open Go Go.Val Go.Proofs Go.Proofs.Ytlfnmgmbmgacgaa
attribute [local irreducible] Ev EvD EvC thenQ blockQ RoundG RetQ
set_option maxRecDepth 100000
set_option maxHeartbeats 4000000
set_option linter.unusedSimpArgs false
set_option linter.unusedVariables false
theorem secs_nil : secs [] = [] := rfl
theorem secs_one (S : List (List UInt8)) : AllW 1 (secs S) = True := by simp [AllW, secs, secD, DV.cells]
theorem secs_c1 (σ : Store) (S : List (List UInt8)) : AllC σ (secs S) = True := by
 simp only [AllC, eq_iff_iff, iff_true]; intro c hc
 simp only [flat, secs, List.flatMap_map, secD, DV.cells, List.mem_flatMap, List.mem_singleton] at hc
 obtain ⟨b, _, rfl⟩ := hc; trivial
theorem pends_two (W : List (Int × List UInt8)) : AllW 2 (pends W) = True := by
 simp only [AllW, pends, eq_iff_iff, iff_true]; intro x hx; obtain ⟨p, _, rfl⟩ := List.mem_map.1 hx; rfl
theorem pends_c1 (σ : Store) (W : List (Int × List UInt8)) : AllC σ (pends W) = True := by
 simp only [AllC, eq_iff_iff, iff_true]; intro c hc
 simp only [flat, pends, List.flatMap_map, pendD, DV.cells, List.mem_flatMap, List.mem_cons, List.not_mem_nil, or_false] at hc
 obtain ⟨b, _, rfl | rfl⟩ := hc <;> trivial
attribute [go_sem] secs_one secs_c1 pends_two pends_c1
theorem secs_set (S : List (List UInt8)) (i : Nat) (b : List UInt8) : (secs S).set i (.sl (bytes b)) = secs (S.set i b) := by simp [secs, List.map_set, secD]
theorem c_slices_Clone_s_s_byte_s_byte (S : List (List UInt8)) (hC : S.length < 1099511627776) : PureOwn Try.prog n_slices_Clone_s_s_byte_s_byte [.sl (secs S)] (secs S) 28 1 := by
 refine PureOwn.go tok (rs := [.tmp 2]) [.sl (secs S), .undef, .undef, .undef, .undef, .undef, .undef, .undef] Try.func65 (fun σ => ?_)
 repeat' (first | (show Ev _ _ _ _; first | refine Ev_seq ?_ | refine W_reg ?_ | refine W_ifB (fun h => ?_) (fun h => ?_) | refine Ev_skip ?_) | (show EvD _ _ [] _ _ _; refine W_nil ?_) | (show EvD _ _ (_ :: _) _ _ _; first | refine W_run tok ?_ ?_ | refine W_isnil tok (fun qn hqn => ?_)) | refine Q_thenN ?_ | fail)
 all_goals (try exact sd)
 all_goals (try refine F_done ?_)
 ·have h0 : S = [] := by
   have := hqn h
   cases S with
   | nil => rfl
   | cons x b => simp [secs] at this
  subst h0
  refine Ev_seed 2 28 1 rfl (by decide) (by simp only [List.set_cons_succ, List.set_cons_zero]; exact rfl) ?_
  repeat' (first | (show Ev _ _ _ _; refine Ev_ret ?_) | (show RetQ _ _ (RO _ _ _ _) _ _; refine R_own ?_ ?_) | refine Q_thenR ?_ | fail)
  all_goals (try exact sd)
  all_goals (try refine F_done ?_)
  all_goals rfl
 ·repeat' (first | (show Ev _ _ _ _; refine Ev_ret ?_) | (show RetQ _ _ (RO _ _ _ _) _ _; refine R_own ?_ ?_) | fail)
  all_goals (try exact sd)
  all_goals (try refine F_done ?_)
  all_goals rfl
instance i_slices_Clone_s_s_byte_s_byte (S : List (List UInt8)) : ConOwn Try.prog 65 [.sl (secs S)] (S.length < 1099511627776) (secs S) (28) (1) := ⟨c_slices_Clone_s_s_byte_s_byte S ⟩
theorem c_disk_Flush_1 (k : Int) (hC : True) : Pure Try.prog n_disk_Flush_1 [.int .i64 k] (.bool true) := by
 refine Pure.go tok (rs := [.tmp 2]) [.int .i64 k, .undef, .undef] Try.func55 (fun σ => ?_)
 repeat' (first | (show Ev _ _ _ _; first | refine Ev_seq ?_ | refine W_reg ?_ | refine Ev_ret ?_) | (show EvD _ _ [] _ _ _; refine W_nil ?_) | (show EvD _ _ (_ :: _) _ _ _; refine W_run tok ?_ ?_) | (show RetQ _ _ (RP _ _) _ _; refine R_ret ?_ ?_) | refine Q_thenN ?_ | fail)
 all_goals (try exact sd)
 all_goals (try refine F_done ?_)
 all_goals rfl
instance i_disk_Flush_1 (k : Int) : Con Try.prog 55 [.int .i64 k] (True) (.bool true) := ⟨c_disk_Flush_1 k ⟩
instance p_Flush_1 : PredC Try.prog 55 [] [] (fun x => ∃ k, x = .int .i64 k) (fun _ => true) :=
 .of at_disk_Flush_1 (by rintro x ⟨k, rfl⟩; exact c_disk_Flush_1 k trivial)
def boolsD (l : List Bool) : List DV := l.map .bool
theorem boolsD_len (l : List Bool) : (boolsD l).length = l.length := by simp [boolsD]
theorem boolsD_named (r b m : Nat) (l : List Bool) : nameds r b m (boolsD l) = true := by
 rw [nameds_iff]; intro c hc; obtain ⟨x, _, rfl⟩ := List.mem_map.1 hc; rfl
theorem boolsD_get {l : List Bool} {i : Nat} (h : i < l.length) : (boolsD l).getD i .undef = .bool (l.getD i false) := by
 simp [boolsD, List.getD_eq_getElem?_getD, List.getElem?_map, List.getElem?_eq_getElem h]
attribute [go_sem] boolsD_len boolsD_named
def keepsP (l : List Bool) (k : Int) : Bool := decide (k < l.length) && l.getD k.toNat false
theorem c_disk_Crash_1 (k : Int) (l : List Bool) (hC : 0 ≤ k) : Pure Try.prog n_disk_Crash_1 [.int .i64 k, .cp [.sl (boolsD l)]] (.bool (keepsP l k)) := by
 refine Pure.go tok (rs := [.tmp 3]) [.int .i64 k, .cp [.sl (boolsD l)], .undef, .undef, .undef, .undef, .undef, .undef, .undef, .undef, .undef, .undef, .undef, .undef] Try.func47 (fun σ => ?_)
 by_cases h : k < l.length
 ·have hg : (boolsD l).getD k.toNat .undef = .bool (l.getD k.toNat false) := boolsD_get (by omega)
  repeat' (first | (show Ev _ _ _ _; first | refine Ev_seq ?_ | refine W_reg ?_ | refine Ev_ret ?_) | (show EvD _ _ [] _ _ _; refine W_nil ?_) | (show EvD _ _ (⟨_, _, _, _, _, some _⟩ :: _) _ _ _; refine W_grdY ?_) | (show EvD _ _ (_ :: _) _ _ _; first | refine W_run tok ?_ ?_ (by simp (maxSteps := 1000000) (disch := omega) only [go_sem, hg]; with_reducible exact rfl)) | (show RetQ _ _ (RP _ _) _ _; refine R_ret ?_ ?_) | refine Q_thenN ?_ | fail)
  all_goals (try exact sd)
  all_goals (try refine F_done ?_)
  simp [keepsP, h]
 ·repeat' (first | (show Ev _ _ _ _; first | refine Ev_seq ?_ | refine W_reg ?_ | refine Ev_ret ?_) | (show EvD _ _ [] _ _ _; refine W_nil ?_) | (show EvD _ _ (⟨_, _, _, _, _, some _⟩ :: _) _ _ _; refine W_grdN ?_) | (show EvD _ _ (_ :: _) _ _ _; refine W_run tok ?_ ?_) | (show RetQ _ _ (RP _ _) _ _; refine R_ret ?_ ?_) | refine Q_thenN ?_ | fail)
  all_goals (try exact sd)
  all_goals (try refine F_done ?_)
  simp [keepsP, h]
instance i_disk_Crash_1 (k : Int) (l : List Bool) : Con Try.prog 47 [.int .i64 k, .cp [.sl (boolsD l)]] (0 ≤ k) (.bool (keepsP l k)) := ⟨c_disk_Crash_1 k  l ⟩
def crashPd (l : List Bool) : DV → Bool
 | .int _ k => keepsP l k
 | _ => false
instance p_Crash_1 (l : List Bool) : PredC Try.prog 47 [] [.cp [.sl (boolsD l)]] (fun x => ∃ k : Int, 0 ≤ k ∧ x = .int .i64 k) (crashPd l) :=
 .of at_disk_Crash_1 (by rintro x ⟨k, hk, rfl⟩; exact c_disk_Crash_1 k l hk)
def doneN (S : List (List UInt8)) (W : List (Int × List UInt8)) (p : Nat → Bool) : Nat → List (List UInt8)
 | 0 => S
 | k + 1 => if p k then (doneN S W p k).set (W.getD k (0, [])).1.toNat (W.getD k (0, [])).2 else doneN S W p k
def doneS (S : List (List UInt8)) (W : List (Int × List UInt8)) (p : Nat → Bool) : List (List UInt8) := doneN S W p W.length
theorem doneN_len (S : List (List UInt8)) (W : List (Int × List UInt8)) (p : Nat → Bool) : ∀ k, (doneN S W p k).length = S.length
 | 0 => rfl
 | k + 1 => by unfold doneN; split <;> simp [doneN_len S W p k]
def predN (p : DV → Bool) (k : Nat) : Bool := p (.int .i64 (k : Int))
theorem c_done (S : List (List UInt8)) (W : List (Int × List UInt8)) (L : Int) (O : Bool) (g : FuncId) (fs cs : List DV) {dom : DV → Prop} {p : DV → Bool} [hp : PredC Try.prog g fs cs dom p]
  (hC : S.length < 1099511627776 ∧ W.length < 1099511627776 ∧ (∀ q ∈ W, 0 ≤ q.1 ∧ q.1 < S.length) ∧ ∀ k : Int, 0 ≤ k → k < W.length → dom (.int .i64 k)) :
  Pure Try.prog n_disk_done [diskD S W L O, .fn (.func g) fs cs] (diskD (doneS S W (predN p)) [] L O) := by
 have i1 := hp.fnc
 have i2 := fun x => hp.con x
 have nf := fun r b m => (hp.nmf r b m).1
 have nc := fun r b m => (hp.nmf r b m).2
 refine Pure.go tok (rs := [.cell 4 25]) [diskD S W L O, .fn (.func g) fs cs, .undef, .undef, .undef, .undef, .undef, .undef, .undef, .undef, .undef, .undef, .undef, .undef, .undef, .undef, .undef, .undef, .undef, .undef, .undef, .undef, .undef, .undef, .undef, .undef, .undef, .undef, .undef, .undef, .undef, .undef] Try.func46 (fun σ => ?_) (hd := by simp [DV.named, nameds, secs_named, pends_named])
 repeat' (first | (show Ev _ _ _ _; first | refine Ev_seq ?_ | refine W_reg ?_ | refine Ev_block ?_) | (show EvD _ _ [] _ _ _; refine W_nil ?_) | (show EvD _ _ (_ :: _) _ _ _; first | refine W_run tok ?_ ?_ | refine W_callee ?_) | (show EvC _ _ _ _ _ _ _ _ _; refine W_conOwn ?_ ?_) | refine Q_thenN ?_ | fail)
 all_goals (try exact sd)
 all_goals (try refine F_done ?_)
 refine Ev_lp (W.length) (fun i => [(14, i64 i)]) (fun i => ⟨σ.rows ++ [some ⟨secs (doneN S W (predN p) i), 28, 1⟩], σ.boxes ++ [some ⟨25, [.row σ.rows.length S.length, .sl (pends W), .int .i64 L, .bool O]⟩, some ⟨25, [.slt [], .slt [], .int .i64 0, .bool false]⟩], σ.maps⟩) [5, 6, 15, 16, 17, 18, 19, 20, 21, 22, 23, 24, 25, 26, 27, 28, 29] ?_ (by first | rfl | (simp only [List.take_zero, List.append_nil]; done)) (fun i hi => ?_)
 ·exact le1
 by_cases hi' : i < W.length
 ·have hg := pends_get hi'
  have hd := hC.2.2.2 (i : Int) (by omega) (by omega)
  have hl := doneN_len S W (predN p) i
  have ha := hC.2.2.1 (W.getD i (0, [])) (by rw [List.getD_eq_getElem?_getD, List.getElem?_eq_getElem hi']; exact List.getElem_mem hi')
  cases hk : predN p i with
  | true =>
   have i4 := hp.con (.int .i64 (i : Int))
   rw [show p (.int .i64 (i : Int)) = true from hk] at i4
   repeat' (first | (show Ev _ _ _ _; first | refine Ev_seq ?_ | refine W_reg ?_ | refine Ev_block ?_ | refine W_ifT ?_ | refine W_ifY ?_ | refine Ev_skip ?_) | (show EvD _ _ [] _ _ _; refine W_nil ?_) | (show EvD _ _ (_ :: _) _ _ _; first | refine W_run tok ?_ ?_ (by simp (maxSteps := 1000000) (disch := omega) only [go_sem, wrap_i64_id, hg, hl, secs_get, DV.over, List.headD_cons, secs_set]; with_reducible exact rfl) | refine W_callee ?_) | (show EvC _ _ _ _ _ _ _ _ _; refine W_con ?_ ?_) | refine Q_thenN ?_ | refine Q_blkN ?_ | fail)
   all_goals (try exact sd)
   all_goals (try refine F_done ?_)
   have hn : (doneN S W (predN p) i).set (W.getD i (0, [])).1.toNat (W.getD i (0, [])).2 = doneN S W (predN p) (i + 1) := by rw [doneN, if_pos hk]
   refine Q_rndC (Rb := σ.rows) (A := σ.boxes) (Mb := σ.maps) (R := ((fun i => [some ⟨secs (doneN S W (predN p) i), 28, 1⟩]) (i))) (R' := ((fun i => [some ⟨secs (doneN S W (predN p) i), 28, 1⟩]) (i + 1))) (B := ((fun i => [some ⟨25, [.row σ.rows.length S.length, .sl (pends W), .int .i64 L, .bool O]⟩, some ⟨25, [.slt [], .slt [], .int .i64 0, .bool false]⟩]) (i))) (B' := ((fun i => [some ⟨25, [.row σ.rows.length S.length, .sl (pends W), .int .i64 L, .bool O]⟩, some ⟨25, [.slt [], .slt [], .int .i64 0, .bool false]⟩]) (i + 1))) (M := []) (M' := []) ?_ (by omega) (by first | rfl | simp only [List.append_nil]) (by first | rfl | simp only [List.append_nil]) (by first | ((try simp only [List.append_nil, List.cons_append, List.nil_append, List.append_assoc, hn]) <;> exact rfl) | exact (List.append_nil _).symm) (by first | ((try simp only [List.append_nil, List.cons_append, List.nil_append, List.append_assoc, hn]) <;> exact rfl) | exact (List.append_nil _).symm) (by first | ((try simp only [List.append_nil, List.cons_append, List.nil_append, List.append_assoc, hn]) <;> exact rfl) | exact (List.append_nil _).symm) (by simp) (by simp) (by simp) (by simp [nameds, DV.named, bytes_named, nameds_append, secs_named, pends_named, nf, nc] <;> omega) (by repeat (first | exact allN_nil _ | refine allN_none ?_ | refine allN_some (by first | exact bytes_named _ _ _ _ | (simp [nameds, DV.named, bytes_named, nameds_append, secs_named, pends_named, nf, nc] <;> omega)) ?_)) (by repeat (first | exact allN_nil _ | refine allN_none ?_ | refine allN_some (by first | exact bytes_named _ _ _ _ | (simp [nameds, DV.named, bytes_named, nameds_append, secs_named, pends_named, nf, nc] <;> omega)) ?_)) (by simp)
   repeat (first | exact LeL.nil | refine LeL.cons2 ?_ (Le.undef _) | refine LeL.cons2 ?_ (Le.refl _) | refine LeL.cons2 ?_ (Le.sl _) | refine LeL.cons2 ?_ (Le.eq (by first | rfl | exact congrArg _ (by omega))) | refine LeL.cons2 ?_ (Le.eq ?_))
  | false =>
   have i4 := hp.con (.int .i64 (i : Int))
   rw [show p (.int .i64 (i : Int)) = false from hk] at i4
   have hn : doneN S W (predN p) (i + 1) = doneN S W (predN p) i := by rw [doneN, hk]; rfl
   repeat' (first | (show Ev _ _ _ _; first | refine Ev_seq ?_ | refine W_reg ?_ | refine Ev_block ?_ | refine W_ifF ?_ | refine W_ifY ?_ | refine Ev_skip ?_) | (show EvD _ _ [] _ _ _; refine W_nil ?_) | (show EvD _ _ (_ :: _) _ _ _; first | refine W_run tok ?_ ?_ (by simp (maxSteps := 1000000) (disch := omega) only [go_sem, wrap_i64_id, hg, hl]; with_reducible exact rfl) | refine W_callee ?_) | (show EvC _ _ _ _ _ _ _ _ _; refine W_con ?_ ?_) | refine Q_thenN ?_ | refine Q_blkN ?_ | fail)
   all_goals (try exact sd)
   all_goals (try refine F_done ?_)
   refine Q_rndC (Rb := σ.rows) (A := σ.boxes) (Mb := σ.maps) (R := ((fun i => [some ⟨secs (doneN S W (predN p) i), 28, 1⟩]) (i))) (R' := ((fun i => [some ⟨secs (doneN S W (predN p) i), 28, 1⟩]) (i + 1))) (B := ((fun i => [some ⟨25, [.row σ.rows.length S.length, .sl (pends W), .int .i64 L, .bool O]⟩, some ⟨25, [.slt [], .slt [], .int .i64 0, .bool false]⟩]) (i))) (B' := ((fun i => [some ⟨25, [.row σ.rows.length S.length, .sl (pends W), .int .i64 L, .bool O]⟩, some ⟨25, [.slt [], .slt [], .int .i64 0, .bool false]⟩]) (i + 1))) (M := []) (M' := []) ?_ (by omega) (by first | rfl | simp only [List.append_nil]) (by first | rfl | simp only [List.append_nil]) (by first | ((try simp only [List.append_nil, List.cons_append, List.nil_append, List.append_assoc, hn]) <;> exact rfl) | exact (List.append_nil _).symm) (by first | ((try simp only [List.append_nil, List.cons_append, List.nil_append, List.append_assoc, hn]) <;> exact rfl) | exact (List.append_nil _).symm) (by first | ((try simp only [List.append_nil, List.cons_append, List.nil_append, List.append_assoc, hn]) <;> exact rfl) | exact (List.append_nil _).symm) (by simp) (by simp) (by simp) (by simp [nameds, DV.named, bytes_named, nameds_append, secs_named, pends_named, nf, nc] <;> omega) (by repeat (first | exact allN_nil _ | refine allN_none ?_ | refine allN_some (by first | exact bytes_named _ _ _ _ | (simp [nameds, DV.named, bytes_named, nameds_append, secs_named, pends_named, nf, nc] <;> omega)) ?_)) (by repeat (first | exact allN_nil _ | refine allN_none ?_ | refine allN_some (by first | exact bytes_named _ _ _ _ | (simp [nameds, DV.named, bytes_named, nameds_append, secs_named, pends_named, nf, nc] <;> omega)) ?_)) (by simp)
   repeat (first | exact LeL.nil | refine LeL.cons2 ?_ (Le.undef _) | refine LeL.cons2 ?_ (Le.refl _) | refine LeL.cons2 ?_ (Le.sl _) | refine LeL.cons2 ?_ (Le.eq (by first | rfl | exact congrArg _ (by omega))) | refine LeL.cons2 ?_ (Le.eq ?_))
 ·obtain rfl : i = W.length := by omega
  have hl := doneN_len S W (predN p) W.length
  repeat' (first | (show Ev _ _ _ _; first | refine Ev_seq ?_ | refine W_reg ?_ | refine W_ifN ?_ | refine Ev_exit ?_ | refine Ev_ret ?_) | (show EvD _ _ [] _ _ _; refine W_nil ?_) | (show EvD _ _ (_ :: _) _ _ _; first | refine W_run tok ?_ ?_ (by simp (maxSteps := 1000000) (disch := omega) only [go_sem, wrap_i64_id, hl]; with_reducible exact rfl)) | (show RetQ _ _ (RP _ _) _ _; refine R_ret ?_ ?_) | (show FrzTo _ _ _ _; first | refine F_row ?_ | refine F_weak ?_) | refine Q_thenN ?_ | refine Q_thenE ?_ | refine Q_blkE ?_ | refine Q_rndE ?_ | fail)
  all_goals (try exact sd)
  all_goals (try refine F_done ?_)
  rfl
instance i_done (S : List (List UInt8)) (W : List (Int × List UInt8)) (L : Int) (O : Bool) (g : FuncId) (fs cs : List DV) {dom : DV → Prop} {p : DV → Bool} [hp : PredC Try.prog g fs cs dom p] :
  Con Try.prog 46 [diskD S W L O, .fn (.func g) fs cs] (S.length < 1099511627776 ∧ W.length < 1099511627776 ∧ (∀ q ∈ W, 0 ≤ q.1 ∧ q.1 < S.length) ∧ ∀ k : Int, 0 ≤ k → k < W.length → dom (.int .i64 k)) (diskD (doneS S W (predN p)) [] L O) := ⟨c_done S W L O g fs cs⟩
end Go.Val.Ytlfnmgmbmgacgaa
