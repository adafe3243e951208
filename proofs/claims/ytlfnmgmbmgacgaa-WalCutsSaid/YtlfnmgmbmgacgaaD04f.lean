/- Chapter 04: new disks, writes, walked. -/
import Derived.Test.YtlfnmgmbmgacgaaD04e
namespace Go.Val.Ytlfnmgmbmgacgaa
open Go Go.Val Go.Proofs Go.Proofs.Ytlfnmgmbmgacgaa
attribute [local irreducible] Ev EvD EvC thenQ blockQ RoundG RetQ
set_option maxRecDepth 100000
set_option maxHeartbeats 4000000
set_option linter.unusedSimpArgs false
set_option linter.unusedVariables false
def zeros (n : Nat) : List UInt8 := List.replicate n 0
theorem zeros_len (n : Nat) : (zeros n).length = n := List.length_replicate
theorem secs_app (A B : List (List UInt8)) : secs A ++ secs B = secs (A ++ B) := by simp [secs]
theorem secs_snoc (A : List (List UInt8)) (b : List UInt8) : secs A ++ [.sl (bytes b)] = secs (A ++ [b]) := by simp [secs, secD]
theorem pends_snoc (A : List (Int × List UInt8)) (i : Int) (b : List UInt8) : pends A ++ [.agg [.int .i64 i, .sl (bytes b)]] = pends (A ++ [(i, b)]) := by simp [pends, pendD]
def newS (n : Nat) : List (List UInt8) := List.replicate n (zeros 64)
theorem newS_len (n : Nat) : (newS n).length = n := List.length_replicate
theorem newS_succ (n : Nat) : newS n ++ [zeros 64] = newS (n + 1) := (List.replicate_succ').symm
theorem zeros64 : List.replicate 64 (0 : UInt8) = zeros 64 := rfl
theorem c_disk_New (n : Int) (hC : True) : Pure Try.prog n_disk_New [.int .i64 n] (.tup [diskIf (1 ≤ n ∧ n ≤ 4096) (newS n.toNat) [] (-1) false, .int .i64 (if 1 ≤ n ∧ n ≤ 4096 then 0 else 1)]) := by
 refine Pure.go tok (rs := [.cell 2 25, .tmp 3]) [.int .i64 n, .undef, .undef, .undef, .undef, .undef, .undef, .undef, .undef, .undef, .undef, .undef, .undef, .undef, .undef, .undef, .undef, .undef, .undef, .undef, .undef, .undef, .undef, .undef] Try.func38 (fun σ => ?_)
 by_cases hn : 1 ≤ n ∧ n ≤ 4096
 ·repeat' (first | (show Ev _ _ _ _; first | refine Ev_seq ?_ | (show Ev _ (.region _ _ false) _ _; refine W_reg ?_) | refine Ev_block ?_ | refine W_ifN ?_ | refine Ev_skip ?_) | (show EvD _ _ [] _ _ _; refine W_nil ?_) | (show EvD _ _ (⟨_, _, _, _, _, some _⟩ :: _) _ _ _; refine W_grdN ?_) | (show EvD _ _ (_ :: _) _ _ _; refine W_run tok ?_ ?_) | refine Q_thenN ?_ | fail)
  all_goals (try exact sd)
  all_goals (try refine F_done ?_)
  refine Ev_seedB (σ.boxes.length + 1) 0 28 1 (by (try simp only [app_get, app_get0, List.getElem?_cons_succ, List.getElem?_cons_zero]) <;> exact rfl) (by (try simp only [List.getElem?_cons_succ, List.getElem?_cons_zero]) <;> exact rfl) (by decide) (by (try simp only [app_len, List.length_cons, List.length_nil, Nat.zero_add, Nat.reduceAdd, app_set, app_set0, List.set_cons_succ, List.set_cons_zero]) <;> exact rfl) (by (try simp only [List.append_assoc, List.cons_append, List.nil_append]) <;> exact rfl) ?_
  refine Ev_lp (n.toNat) (fun i => [(14, i64 i)]) (fun i => ⟨σ.rows ++ [some ⟨secs (newS i), 28, 1⟩], σ.boxes ++ [some ⟨25, [.slt [], .slt [], .int .i64 0, .bool false]⟩, some ⟨25, [.row σ.rows.length i, .slt [], .int .i64 (-1), .bool false]⟩], σ.maps⟩) [15, 16, 17, 18, 19, 20, 21, 22] ?_ (by first | rfl | (simp only [List.take_zero, List.append_nil]; done)) (fun i hi => ?_)
  ·exact le1
  by_cases hi' : i < n.toNat
  ·have hl := newS_len i
   repeat' (first | (show Ev _ (.region _ _ true) _ _; refine D_startA [51, 54, 65, 68, 99999, 99998] mix ?_) | (show DrD _ _ _ [] _ _ _ _; refine D_nil ?_; try dsimp only) | (show DrD _ EA _ (_ :: _) _ _ _ _; first | refine D_runLA tok ?_ ?_ (h := by intro R; simp (maxSteps := 1000000) (disch := omega) only [go_sem, wrap_i64_id, hl, zeros64, secs_snoc, newS_succ]; with_reducible exact rfl)) | (show DrD _ _ _ (_ :: _) _ _ _ _; first | refine D_store tok ?_ ?_ | refine D_eff tok ?_ ?_ | refine D_hold tok ?_ ?_) | (show Ev _ _ _ _; first | refine Ev_seq ?_ | refine W_reg ?_ | refine Ev_block ?_ | refine W_ifY ?_ | refine Ev_skip ?_) | (show EvD _ _ [] _ _ _; refine W_nil ?_) | (show EvD _ _ (_ :: _) _ _ _; first | refine W_run tok ?_ ?_ (by simp (maxSteps := 1000000) (disch := omega) only [go_sem, wrap_i64_id, hl, zeros64, secs_snoc, newS_succ]; with_reducible exact rfl)) | refine Q_thenN ?_ | refine Q_blkN ?_ | fail)
   all_goals (try exact sd)
   all_goals (try refine F_done ?_)
   refine Q_rndN ?_ (by omega) ?_
   rotate_left
   ·rfl
   repeat (first | exact LeL.nil | refine LeL.cons2 ?_ (Le.undef _) | refine LeL.cons2 ?_ (Le.refl _) | refine LeL.cons2 ?_ (Le.sl _) | refine LeL.cons2 ?_ (Le.eq (by first | rfl | exact congrArg _ (by omega))) | refine LeL.cons2 ?_ (Le.eq ?_))
  ·obtain rfl : i = n.toNat := by omega
   have hl := newS_len n.toNat
   repeat' (first | (show Ev _ _ _ _; first | refine Ev_seq ?_ | refine W_reg ?_ | refine W_ifN ?_ | refine Ev_exit ?_ | refine Ev_ret ?_) | (show EvD _ _ [] _ _ _; refine W_nil ?_) | (show EvD _ _ (_ :: _) _ _ _; first | refine W_run tok ?_ ?_ (by simp (maxSteps := 1000000) (disch := omega) only [go_sem, wrap_i64_id, hl]; with_reducible exact rfl)) | (show RetQ _ _ (RP _ _) _ _; refine R_ret ?_ ?_) | (show FrzTo _ _ _ _; first | refine F_row ?_ | refine F_weak ?_) | refine Q_thenN ?_ | refine Q_thenE ?_ | refine Q_blkE ?_ | refine Q_rndE ?_ | fail)
   all_goals (try exact sd)
   all_goals (try refine F_done ?_)
   all_goals (simp [hn, pends])
 ·repeat' (first | (show Ev _ _ _ _; first | refine Ev_seq ?_ | refine W_reg ?_ | refine W_ifT ?_ | refine W_ifY ?_ | refine Ev_ret ?_) | (show EvD _ _ [] _ _ _; refine W_nil ?_) | (show EvD _ _ (⟨_, _, _, _, _, some _⟩ :: _) _ _ _; refine W_grdP (fun h => ?_) (fun h => ?_)) | (show EvD _ _ (_ :: _) _ _ _; refine W_run tok ?_ ?_) | (show RetQ _ _ (RP _ _) _ _; refine R_ret ?_ ?_) | (show FrzTo _ _ _ _; refine F_weak ?_) | refine Q_thenN ?_ | refine Q_thenR ?_ | fail)
  all_goals (try exact sd)
  all_goals (try refine F_done ?_)
  all_goals (simp [hn, secs, pends])
instance i_disk_New (n : Int) : Con Try.prog 38 [.int .i64 n] (True) (.tup [diskIf (1 ≤ n ∧ n ≤ 4096) (newS n.toNat) [] (-1) false, .int .i64 (if 1 ≤ n ∧ n ≤ 4096 then 0 else 1)]) := ⟨c_disk_New n ⟩
def chunk (b : List UInt8) (k : Nat) : List UInt8 := (b.drop (64 * k)).take 64
def addW (W : List (Int × List UInt8)) (i : Int) (b : List UInt8) (n : Nat) : List (Int × List UInt8) := W ++ (List.range n).map fun (k : Nat) => (i + (k : Int), chunk b k)
theorem addW_succ (W : List (Int × List UInt8)) (i : Int) (b : List UInt8) (n : Nat) : addW W i b n ++ [(i + (n : Int), chunk b n)] = addW W i b (n + 1) := by
 simp [addW, List.range_succ]
theorem addW_zero (W : List (Int × List UInt8)) (i : Int) (b : List UInt8) : addW W i b 0 = W := by simp [addW]
theorem addW_len (W : List (Int × List UInt8)) (i : Int) (b : List UInt8) (n : Nat) : (addW W i b n).length = W.length + n := by simp [addW]
def leftL (L : Int) (n : Nat) : Int := if L < 0 then L else L - n
def fitN (L : Int) (O : Bool) (n : Nat) : Nat := if O = true then 0 else if L < 0 ∨ (n : Int) ≤ L then n else L.toNat
def writeE (S : List (List UInt8)) (W : List (Int × List UInt8)) (L : Int) (O : Bool) (i : Int) (b : List UInt8) : Int :=
 if ¬ mayP S W L ∨ b.length = 0 ∨ b.length % 64 ≠ 0 then 1 else if ¬ (0 ≤ i ∧ i ≤ S.length ∧ (b.length / 64 : Nat) ≤ S.length - i) then 5 else if fitN L O (b.length / 64) < b.length / 64 then 10 else 0
abbrev writeP (e : Int) : Prop := e = 0 ∨ e = 10
abbrev writeD (S : List (List UInt8)) (W : List (Int × List UInt8)) (L : Int) (O : Bool) (i : Int) (b : List UInt8) : DV :=
 diskIf (writeP (writeE S W L O i b)) S (addW W i b (fitN L O (b.length / 64))) (leftL L (fitN L O (b.length / 64))) (decide (writeE S W L O i b = 10))
theorem c_disk_Write (S : List (List UInt8)) (W : List (Int × List UInt8)) (L : Int) (O : Bool) (i : Int) (b : List UInt8) (hC : szP S W ∧ L < 9223372036854775808 ∧ b.length < 1099511627776) : Pure Try.prog n_disk_Write [diskD S W L O, .int .i64 i, .sl (bytes b)] (.tup [writeD S W L O i b, .int .i64 (writeE S W L O i b)]) := by
 refine Pure.go tok (rs := [.cell 6 25, .tmp 7]) [diskD S W L O, .int .i64 i, .sl (bytes b), .undef, .undef, .undef, .undef, .undef, .undef, .undef, .undef, .undef, .undef, .undef, .undef, .undef, .undef, .undef, .undef, .undef, .undef, .undef, .undef, .undef, .undef, .undef, .undef, .undef, .undef, .undef, .undef, .undef, .undef, .undef, .undef, .undef, .undef, .undef, .undef, .undef, .undef, .undef, .undef, .undef, .undef, .undef, .undef, .undef, .undef, .undef, .undef, .undef, .undef, .undef, .undef, .undef, .undef, .undef, .undef, .undef, .undef] Try.func53 (fun σ => ?_)
 have ht : Int.tmod (b.length : Int) 64 = ((b.length % 64 : Nat) : Int) := tmod_nat _ 64
 have hq : Int.tdiv (b.length : Int) 64 = ((b.length / 64 : Nat) : Int) := tdiv_nat _ 64
 by_cases c1 : ¬ mayP S W L ∨ b.length = 0 ∨ b.length % 64 ≠ 0
 ·have hE : writeE S W L O i b = 1 := by unfold writeE; rw [if_pos c1]
  by_cases hm : mayP S W L
  ·have c1 : b.length = 0 ∨ b.length % 64 ≠ 0 := c1.resolve_left (fun h => h hm)
   by_cases c0 : b.length = 0
   ·repeat' (first | (show Ev _ _ _ _; first | refine Ev_seq ?_ | refine W_reg ?_ | refine Ev_block ?_ | refine W_ifT ?_ | refine Ev_ret ?_) | (show EvD _ _ [] _ _ _; refine W_nil ?_) | (show EvD _ _ (⟨_, _, _, _, _, some _⟩ :: _) _ _ _; first | refine W_grdY ?_ | refine W_grdN ?_) | (show EvD _ _ (_ :: _) _ _ _; first | refine W_run tok ?_ ?_ (by simp (maxSteps := 1000000) (disch := omega) only [go_sem, wrap_i64_id, ht, hq]; with_reducible exact rfl) | refine W_callee ?_) | (show EvC _ _ _ _ _ _ _ _ _; refine W_con ?_ ?_) | (show RetQ _ _ (RP _ _) _ _; refine R_ret ?_ ?_) | (show FrzTo _ _ _ _; refine F_weak ?_) | refine Q_thenN ?_ | refine Q_thenR ?_ | refine Q_blkR ?_ | fail)
    all_goals (try exact sd)
    all_goals (try refine F_done ?_)
    all_goals (simp [hE, writeP, secs, pends])
   ·repeat' (first | (show Ev _ _ _ _; first | refine Ev_seq ?_ | refine W_reg ?_ | refine Ev_block ?_ | refine W_ifY ?_ | refine Ev_ret ?_) | (show EvD _ _ [] _ _ _; refine W_nil ?_) | (show EvD _ _ (⟨_, _, _, _, _, some _⟩ :: _) _ _ _; refine W_grdN ?_) | (show EvD _ _ (_ :: _) _ _ _; first | refine W_run tok ?_ ?_ (by simp (maxSteps := 1000000) (disch := omega) only [go_sem, wrap_i64_id, ht, hq]; with_reducible exact rfl) | refine W_callee ?_) | (show EvC _ _ _ _ _ _ _ _ _; refine W_con ?_ ?_) | (show RetQ _ _ (RP _ _) _ _; refine R_ret ?_ ?_) | (show FrzTo _ _ _ _; refine F_weak ?_) | refine Q_thenN ?_ | refine Q_thenR ?_ | refine Q_blkR ?_ | fail)
    all_goals (try exact sd)
    all_goals (try refine F_done ?_)
    all_goals (simp [hE, writeP, secs, pends])
  ·repeat' (first | (show Ev _ _ _ _; first | refine Ev_seq ?_ | refine W_reg ?_ | refine Ev_block ?_ | refine W_ifT ?_ | refine Ev_ret ?_) | (show EvD _ _ [] _ _ _; refine W_nil ?_) | (show EvD _ _ (⟨_, _, _, _, _, some _⟩ :: _) _ _ _; refine W_grdY ?_) | (show EvD _ _ (_ :: _) _ _ _; first | refine W_run tok ?_ ?_ (by simp (maxSteps := 1000000) (disch := omega) only [go_sem, wrap_i64_id, ht, hq]; with_reducible exact rfl) | refine W_callee ?_) | (show EvC _ _ _ _ _ _ _ _ _; refine W_con ?_ ?_) | (show RetQ _ _ (RP _ _) _ _; refine R_ret ?_ ?_) | (show FrzTo _ _ _ _; refine F_weak ?_) | refine Q_thenN ?_ | refine Q_thenR ?_ | refine Q_blkR ?_ | fail)
   all_goals (try exact sd)
   all_goals (try refine F_done ?_)
   all_goals (simp [hE, writeP, secs, pends])
 ·have hm : mayP S W L := Classical.not_not.1 (fun h => c1 (.inl h))
  have c1' : ¬ (b.length = 0 ∨ b.length % 64 ≠ 0) := fun h => c1 (.inr h)
  by_cases c2 : (0 ≤ i ∧ i ≤ S.length ∧ ((b.length / 64 : Nat) : Int) ≤ S.length - i)
  ·have hlen : b.length = 64 * (b.length / 64) := by omega
   generalize hnn : b.length / 64 = n at *
   have hn1 : 1 ≤ n := by omega
   have hS := hm.1.2
   have hL := hm.2.1
   have hfl : ∀ k, k ≤ fitN L O n → -1 ≤ leftL L k ∧ leftL L k < 9223372036854775808 := by
    intro k hk
    unfold fitN at hk
    unfold leftL
    split at hk
    ·split <;> omega
    ·split at hk <;> split <;> omega
   have hE : writeE S W L O i b = if fitN L O n < n then 10 else 0 := by unfold writeE; rw [hnn, if_neg c1, if_neg (fun h => h c2)]
   have hfn : fitN L O n ≤ n := by unfold fitN; split; omega; split <;> omega
   cases O
   ·repeat' (first | (show Ev _ _ _ _; first | refine Ev_seq ?_ | refine W_reg ?_ | refine Ev_block ?_ | refine W_ifN ?_ | refine Ev_skip ?_) | (show EvD _ _ [] _ _ _; refine W_nil ?_) | (show EvD _ _ (⟨_, _, _, _, _, some _⟩ :: _) _ _ _; refine W_grdN ?_) | (show EvD _ _ (_ :: _) _ _ _; first | refine W_run tok ?_ ?_ (by simp (maxSteps := 1000000) (disch := omega) only [go_sem, wrap_i64_id, ht, hq]; with_reducible exact rfl) | refine W_callee ?_) | (show EvC _ _ _ _ _ _ _ _ _; refine W_con ?_ ?_) | refine Q_thenN ?_ | refine Q_blkN ?_ | fail)
    all_goals (try exact sd)
    all_goals (try refine F_done ?_)
    refine Ev_lp (fitN L false n) (fun k => [(1, .int .i64 (i + (k : Int))), (2, .sl (bytes (b.drop (64 * k))))]) (fun k => ⟨σ.rows, σ.boxes ++ [some ⟨25, [.sl (secs S), .sl (pends (addW W i b k)), .int .i64 (leftL L k), .bool false]⟩, some ⟨25, [.slt [], .slt [], .int .i64 0, .bool false]⟩], σ.maps⟩) [7, 33, 34, 35, 36, 37, 38, 39, 40, 41, 42, 43, 44, 45, 46, 47, 48, 49, 50, 51, 52, 53, 54, 55, 56, 57, 58, 59] ?_ (by simp [addW_zero, leftL]) (fun k hi => ?_)
    ·exact le1
    have hf := hfl k hi
    have hdl : (b.drop (64 * k)).length = 64 * n - 64 * k := by rw [List.length_drop]; omega
    have hal := addW_len W i b k
    by_cases hi' : k < fitN L false n
    ·have hkL : L < 0 ∨ (k : Int) < L := by
      unfold fitN at hi'; rw [if_neg (by simp)] at hi'
      split at hi' <;> omega
     have hs : spendB (leftL L k) false = true := by
      have : leftL L k ≠ 0 := by unfold leftL; split <;> omega
      simp [spendB, this]
     have hs2 : spendL (leftL L k) false = leftL L (k + 1) := by
      unfold spendL; rw [hs]; unfold leftL; split <;> (simp only [true_and]; split <;> omega)
     have i1 : Con Try.prog 68 [.sl (bytes (chunk b k))] True (.sl (bytes (chunk b k))) :=
      ⟨fun _ => (c_slices_Clone_s_byte_byte (chunk b k) (by unfold chunk; simp; omega)).pure (bytes_named _ _ _ _)⟩
     have hch : (List.drop (64 * k) b).take 64 = chunk b k := rfl
     have htk : (pends (addW W i b k)).take (W.length + k) = pends (addW W i b k) := List.take_of_length_le (by rw [pends_len, hal]; exact Nat.le_refl _)
     have hdr : List.drop 64 (List.take (64 * n - 64 * k) (List.drop (64 * k) b)) = List.drop (64 * (k + 1)) b := by
      rw [List.take_of_length_le (by omega), List.drop_drop]; congr 1
     repeat' (first | (show Ev _ (.region _ _ _) ⟨_, ⟨_, _ ++ _, _⟩⟩ _; refine W_frzBx ?_) | (show Ev _ (.region _ _ true) _ _; refine D_startA [51, 54, 65, 99998] mix ?_) | (show DrD _ _ _ [] _ _ _ _; refine D_nil ?_; try dsimp only) | (show DrD _ EA _ (_ :: _) _ _ _ _; first | refine D_runLA tok ?_ ?_ (h := by intro R; simp (maxSteps := 1000000) (disch := omega) only [go_sem, wrap_i64_id, hs, hs2, hdl, hal, hch, htk, hdr, pends_snoc, addW_succ]; with_reducible exact rfl)) | (show DrD _ _ _ (_ :: _) _ _ _ _; first | refine D_con ?_ ?_ | refine D_store tok ?_ ?_ | refine D_eff tok ?_ ?_ | refine D_hold tok ?_ ?_) | (show Ev _ _ _ _; first | refine Ev_seq ?_ | refine W_reg ?_ | refine Ev_block ?_ | refine W_ifF ?_ | refine W_ifY ?_ | refine Ev_skip ?_) | (show EvD _ _ [] _ _ _; refine W_nil ?_) | (show EvD _ _ (_ :: _) _ _ _; first | refine W_run tok ?_ ?_ (by simp (maxSteps := 1000000) (disch := omega) only [go_sem, wrap_i64_id, hs, hs2, hdl, hal, hch, htk, hdr, pends_snoc, addW_succ]; with_reducible exact rfl) | refine W_callee ?_) | (show EvC _ _ _ _ _ _ _ _ _; refine W_box ?_) | (show EvB _ _ _ _ _ _ _ _ _ _ _ _; refine W_conP ?_ ?_) | refine Q_thenN ?_ | refine Q_blkN ?_ | fail)
     all_goals (try exact sd)
     all_goals (try refine F_done ?_)
     refine Q_rndC (Rb := σ.rows) (A := σ.boxes) (Mb := σ.maps) (R := []) (R' := []) (B := ((fun k => [some ⟨25, [.sl (secs S), .sl (pends (addW W i b k)), .int .i64 (leftL L k), .bool false]⟩, some ⟨25, [.slt [], .slt [], .int .i64 0, .bool false]⟩]) (k))) (B' := ((fun k => [some ⟨25, [.sl (secs S), .sl (pends (addW W i b k)), .int .i64 (leftL L k), .bool false]⟩, some ⟨25, [.slt [], .slt [], .int .i64 0, .bool false]⟩]) (k + 1))) (M := []) (M' := []) ?_ (by omega) (by first | rfl | simp only [List.append_nil]) (by first | rfl | simp only [List.append_nil]) (by first | ((try simp only [List.append_nil, List.cons_append, List.nil_append, List.append_assoc]) <;> exact rfl) | exact (List.append_nil _).symm) (by first | ((try simp only [List.append_nil, List.cons_append, List.nil_append, List.append_assoc]) <;> exact rfl) | exact (List.append_nil _).symm) (by first | ((try simp only [List.append_nil, List.cons_append, List.nil_append, List.append_assoc]) <;> exact rfl) | exact (List.append_nil _).symm) (by simp) (by simp) (by simp) (by simp [nameds, DV.named, bytes_named, nameds_append, secs_named, pends_named] <;> omega) (by repeat (first | exact allN_nil _ | refine allN_none ?_ | refine allN_some (by first | exact bytes_named _ _ _ _ | (simp [nameds, DV.named, bytes_named, nameds_append, secs_named, pends_named] <;> omega)) ?_)) (by repeat (first | exact allN_nil _ | refine allN_none ?_ | refine allN_some (by first | exact bytes_named _ _ _ _ | (simp [nameds, DV.named, bytes_named, nameds_append, secs_named, pends_named] <;> omega)) ?_)) (by simp)
     repeat (first | exact LeL.nil | refine LeL.cons2 ?_ (Le.undef _) | refine LeL.cons2 ?_ (Le.refl _) | refine LeL.cons2 ?_ (Le.sl _) | refine LeL.cons2 ?_ (Le.eq (by first | rfl | exact congrArg _ (by omega))) | refine LeL.cons2 ?_ (Le.eq ?_))
    ·obtain rfl : k = fitN L false n := by omega
     by_cases hkn : fitN L false n < n
     ·have hs : spendB (leftL L (fitN L false n)) false = false := by
       unfold spendB leftL fitN
       simp only [Bool.false_eq_true, if_false]
       unfold fitN at hkn; rw [if_neg (by simp)] at hkn
       split at hkn
       ·omega
       ·rename_i hx; rw [if_neg hx, if_neg (by omega)]; simp; omega
      have hs2 : spendL (leftL L (fitN L false n)) false = leftL L (fitN L false n) := by unfold spendL; rw [hs]; simp
      rw [if_pos hkn] at hE
      repeat' (first | (show Ev _ _ _ _; first | refine Ev_seq ?_ | refine W_reg ?_ | refine Ev_block ?_ | refine W_ifT ?_ | refine W_ifY ?_ | refine Ev_skip ?_ | refine Ev_ret ?_) | (show EvD _ _ [] _ _ _; refine W_nil ?_) | (show EvD _ _ (_ :: _) _ _ _; first | refine W_run tok ?_ ?_ (by simp (maxSteps := 1000000) (disch := omega) only [go_sem, wrap_i64_id, hs, hs2, hdl, hal]; with_reducible exact rfl) | refine W_callee ?_) | (show EvC _ _ _ _ _ _ _ _ _; refine W_box ?_) | (show EvB _ _ _ _ _ _ _ _ _ _ _ _; refine W_conP ?_ ?_) | (show RetQ _ _ (RP _ _) _ _; refine R_ret ?_ ?_) | refine Q_thenN ?_ | refine Q_thenR ?_ | refine Q_blkR ?_ | refine Q_rndR ?_ | fail)
      all_goals (try exact sd)
      all_goals (try refine F_done ?_)
      simp [hE, writeP, hnn]
     ·rw [if_neg hkn] at hE
      repeat' (first | (show Ev _ _ _ _; first | refine Ev_seq ?_ | refine W_reg ?_ | refine W_ifN ?_ | refine Ev_exit ?_ | refine Ev_ret ?_) | (show EvD _ _ [] _ _ _; refine W_nil ?_) | (show EvD _ _ (_ :: _) _ _ _; first | refine W_run tok ?_ ?_ (by simp (maxSteps := 1000000) (disch := omega) only [go_sem, wrap_i64_id, hdl, hal]; with_reducible exact rfl)) | (show RetQ _ _ (RP _ _) _ _; refine R_ret ?_ ?_) | refine Q_thenN ?_ | refine Q_thenE ?_ | refine Q_blkE ?_ | refine Q_rndE ?_ | fail)
      all_goals (try exact sd)
      all_goals (try refine F_done ?_)
      simp [hE, writeP, hnn]
   ·have hf0 : fitN L true n = 0 := by simp [fitN]
    have hs : spendB L true = false := by simp [spendB]
    have hs2 : spendL L true = L := by unfold spendL; rw [hs]; simp
    rw [hf0, if_pos (by omega)] at hE
    repeat' (first | (show Ev _ _ _ _; first | refine Ev_seq ?_ | refine W_reg ?_ | refine Ev_block ?_ | refine W_ifN ?_ | refine Ev_skip ?_) | (show EvD _ _ [] _ _ _; refine W_nil ?_) | (show EvD _ _ (⟨_, _, _, _, _, some _⟩ :: _) _ _ _; refine W_grdN ?_) | (show EvD _ _ (_ :: _) _ _ _; first | refine W_run tok ?_ ?_ (by simp (maxSteps := 1000000) (disch := omega) only [go_sem, wrap_i64_id, ht, hq]; with_reducible exact rfl) | refine W_callee ?_) | (show EvC _ _ _ _ _ _ _ _ _; refine W_con ?_ ?_) | refine Q_thenN ?_ | refine Q_blkN ?_ | fail)
    all_goals (try exact sd)
    all_goals (try refine F_done ?_)
    refine Ev_lp (0) (fun k => [(1, .int .i64 (i + (k : Int))), (2, .sl (bytes (b.drop (64 * k))))]) (fun k => ⟨σ.rows, σ.boxes ++ [some ⟨25, [.sl (secs S), .sl (pends W), .int .i64 L, .bool true]⟩, some ⟨25, [.slt [], .slt [], .int .i64 0, .bool false]⟩], σ.maps⟩) [7, 33, 34, 35, 36, 37, 38, 39, 40, 41, 42, 43, 44, 45, 46, 47, 48, 49, 50, 51, 52, 53, 54, 55, 56, 57, 58, 59] ?_ (by first | rfl | (simp only [List.take_zero, List.append_nil]; done)) (fun k hi => ?_)
    ·exact le1
    obtain rfl : k = 0 := by omega
    have hdl : (List.drop (64 * 0) b).length = 64 * n := by rw [List.length_drop]; omega
    repeat' (first | (show Ev _ _ _ _; first | refine Ev_seq ?_ | refine W_reg ?_ | refine Ev_block ?_ | refine W_ifT ?_ | refine W_ifY ?_ | refine Ev_skip ?_ | refine Ev_ret ?_) | (show EvD _ _ [] _ _ _; refine W_nil ?_) | (show EvD _ _ (_ :: _) _ _ _; first | refine W_run tok ?_ ?_ (by simp (maxSteps := 1000000) (disch := omega) only [go_sem, wrap_i64_id, hs, hs2, hdl]; with_reducible exact rfl) | refine W_callee ?_) | (show EvC _ _ _ _ _ _ _ _ _; refine W_box ?_) | (show EvB _ _ _ _ _ _ _ _ _ _ _ _; refine W_conP ?_ ?_) | (show RetQ _ _ (RP _ _) _ _; refine R_ret ?_ ?_) | refine Q_thenN ?_ | refine Q_thenR ?_ | refine Q_blkR ?_ | refine Q_rndR ?_ | fail)
    all_goals (try exact sd)
    all_goals (try refine F_done ?_)
    simp [hE, writeP, hnn, hf0, addW_zero, leftL]
  ·have hE : writeE S W L O i b = 5 := by unfold writeE; rw [if_neg c1, if_pos c2]
   repeat' (first | (show Ev _ _ _ _; first | refine Ev_seq ?_ | refine W_reg ?_ | refine Ev_block ?_ | refine W_ifY ?_ | refine W_ifN ?_ | refine Ev_ret ?_) | (show EvD _ _ [] _ _ _; refine W_nil ?_) | (show EvD _ _ (⟨_, _, _, _, _, some _⟩ :: _) _ _ _; refine W_grdN ?_) | (show EvD _ _ (_ :: _) _ _ _; first | refine W_run tok ?_ ?_ (by simp (maxSteps := 1000000) (disch := omega) only [go_sem, wrap_i64_id, ht, hq]; with_reducible exact rfl) | refine W_callee ?_) | (show EvC _ _ _ _ _ _ _ _ _; refine W_con ?_ ?_) | (show RetQ _ _ (RP _ _) _ _; refine R_ret ?_ ?_) | (show FrzTo _ _ _ _; refine F_weak ?_) | refine Q_thenN ?_ | refine Q_thenR ?_ | refine Q_blkR ?_ | fail)
   all_goals (try exact sd)
   all_goals (try refine F_done ?_)
   all_goals (simp [hE, writeP, secs, pends])
instance i_disk_Write (S : List (List UInt8)) (W : List (Int × List UInt8)) (L : Int) (O : Bool) (i : Int) (b : List UInt8) : Con Try.prog 53 [diskD S W L O, .int .i64 i, .sl (bytes b)] (szP S W ∧ L < 9223372036854775808 ∧ b.length < 1099511627776) (.tup [writeD S W L O i b, .int .i64 (writeE S W L O i b)]) := ⟨c_disk_Write S  W  L  O  i  b ⟩
end Go.Val.Ytlfnmgmbmgacgaa
