/- Chapter 03, the program's side: the check sum, walked. -/
import Derived.Test.YtlfnmgmbmgacgaaVCrc
import Derived.Test.YtlfnmgmbmgacgaaVM5
import Derived.Test.YtlfnmgmbmgacgaaTab
namespace Go.Val.Ytlfnmgmbmgacgaa
open Go Go.Val Go.Proofs Go.Proofs.Ytlfnmgmbmgacgaa
attribute [local irreducible] Ev EvD EvC thenQ blockQ RoundG RetQ
set_option maxRecDepth 100000
set_option maxHeartbeats 4000000
set_option linter.unusedSimpArgs false
set_option linter.unusedVariables false
def crcTab (i : Nat) : List DV := (List.range 256).map fun j => if j < i then u32 (crcWord j) else .int .u32 0
theorem u32_mul1 (b : BitVec 32) : IntKind.u32.wrap (79764919 * (b.toNat : Int)) = ((79764919#32 * b).toNat : Int) := u32_mulc 79764919 (by decide) b
theorem crcTab_len (i : Nat) : (crcTab i).length = 256 := by simp [crcTab]
theorem crcTab_set (i : Nat) (h : i < 256) : (crcTab i).set i (u32 (crcWord i)) = crcTab (i + 1) := by
 apply List.ext_getElem?
 intro j
 simp only [crcTab, List.getElem?_set, List.getElem?_map, List.length_map, List.length_range]
 by_cases e : i = j
 ·subst e; simp [h]
 ·simp only [e, if_false]
  cases hj : (List.range 256)[j]? with
  | none => rfl
  | some k =>
   have : k = j := by have := List.getElem?_eq_some_iff.1 hj; simp at this; omega
   subst this
   simp only [Option.map_some]
   congr 1
   by_cases hk : k < i
   ·rw [if_pos hk, if_pos (by omega)]
   ·rw [if_neg hk, if_neg (by omega)]
theorem crcTab_get (b : UInt8) : (crcTab 256).getD b.toNat .undef = .int .u32 (crcWord b.toNat).toNat := by
 have h := b.toNat_lt
 simp [crcTab, List.getD_eq_getElem?_getD, List.getElem?_range h]
 exact fun h' => absurd h (by omega)
theorem crcTab_named : (DV.agg (crcTab 256)).named 0 0 0 = true := by
 simp only [DV.named, nameds_iff, crcTab, List.mem_map]
 rintro c ⟨j, _, rfl⟩
 split <;> rfl
theorem crcTab_cell (σ : Store) : ∀ c ∈ crcTab 256, Cell1 σ c := by
 intro c hc
 simp only [crcTab, List.mem_map] at hc
 obtain ⟨j, _, rfl⟩ := hc
 split <;> trivial
theorem c_check_words  (hC : True) : Pure Try.prog n_check_words [] (.agg (crcTab 256)) := by
 refine Pure.go tok (rs := [.cell 0 109]) [.undef, .undef, .undef, .undef, .undef, .undef, .undef, .undef, .undef, .undef, .undef, .undef, .undef, .undef, .undef, .undef, .undef, .undef, .undef, .undef, .undef, .undef, .undef, .undef] Try.func66 (fun σ => ?_)
 have hz : List.replicate 256 (DV.int .u32 0) = crcTab 0 := by simp [crcTab]; rfl
 repeat' (first | (show Ev _ _ _ _; first | refine Ev_seq ?_ | refine W_reg ?_ | refine Ev_block ?_) | (show EvD _ _ [] _ _ _; refine W_nil ?_) | (show EvD _ _ (_ :: _) _ _ _; refine W_run tok ?_ ?_) | refine Q_thenN ?_ | fail)
 all_goals (try exact sd)
 all_goals (try refine F_done ?_)
 refine Ev_lp (256) (fun i => [(4, i64 i)]) (fun i => ⟨σ.rows, σ.boxes ++ [some ⟨109, List.replicate 256 (DV.int .u32 0)⟩, some ⟨109, crcTab i⟩], σ.maps⟩) [2, 3, 5, 6, 7, 8, 9, 10, 11, 12, 13, 14, 15, 16, 17, 18, 19, 20, 21, 22] ?_ (by rw [← hz]) (fun i hi => ?_)
 ·exact le1
 have hl := crcTab_len i
 by_cases hi' : i < 256
 ·repeat' (first | (show Ev _ _ _ _; first | refine Ev_seq ?_ | refine W_reg ?_ | refine Ev_block ?_ | refine W_ifY ?_ | refine Ev_skip ?_) | (show EvD _ _ [] _ _ _; refine W_nil ?_) | (show EvD _ _ (_ :: _) _ _ _; first | refine W_run tok ?_ ?_ (by simp (maxSteps := 1000000) (disch := omega) only [go_sem, u32_ofNat, u32_shl]; with_reducible exact rfl)) | refine Q_thenN ?_ | fail)
  all_goals (try exact sd)
  all_goals (try refine F_done ?_)
  refine Ev_lp (8) (fun k => [(3, u32 (crcSteps k (BitVec.ofNat 32 i <<< 24))), (10, i64 k)]) (fun k => ⟨σ.rows, σ.boxes ++ [some ⟨109, List.replicate 256 (DV.int .u32 0)⟩, some ⟨109, crcTab i⟩], σ.maps⟩) [11, 12, 13, 14, 15, 16, 17, 18] ?_ (by first | rfl | (simp only [List.take_zero, List.append_nil]; done)) (fun k hi => ?_)
  ·exact le1
  by_cases hk' : k < 8
  ·repeat' (first | (show Ev _ _ _ _; first | refine Ev_seq ?_ | refine W_reg ?_ | refine Ev_block ?_ | refine W_ifY ?_ | refine Ev_skip ?_) | (show EvD _ _ [] _ _ _; refine W_nil ?_) | (show EvD _ _ (_ :: _) _ _ _; first | refine W_run tok ?_ ?_ (by simp (maxSteps := 1000000) (disch := omega) only [go_sem, u32_xor, u32_shl, u32_shr, u32_mul1, wrap_i64_id]; with_reducible exact rfl)) | refine Q_thenN ?_ | refine Q_blkN ?_ | fail)
   all_goals (try exact sd)
   all_goals (try refine F_done ?_)
   refine Q_rndN ?_ (by omega) ?_
   rotate_left
   ·rfl
   repeat (first | exact LeL.nil | refine LeL.cons2 ?_ (Le.undef _) | refine LeL.cons2 ?_ (Le.refl _) | refine LeL.cons2 ?_ (Le.sl _) | refine LeL.cons2 ?_ (Le.eq (by first | rfl | exact congrArg _ (by omega))) | refine LeL.cons2 ?_ (Le.eq ?_))
  ·obtain rfl : k = 8 := by omega
   repeat' (first | (show Ev _ _ _ _; first | refine Ev_seq ?_ | refine W_reg ?_ | refine W_ifF ?_ | refine Ev_exit ?_) | (show EvD _ _ [] _ _ _; refine W_nil ?_) | (show EvD _ _ (_ :: _) _ _ _; first | refine W_run tok ?_ ?_ (by simp (maxSteps := 1000000) (disch := omega) only [go_sem, over_one, wrap_i64_id]; with_reducible exact rfl)) | refine Q_thenN ?_ | refine Q_thenE ?_ | refine Q_blkN ?_ | refine Q_blkE ?_ | refine Q_rndE ?_ | fail)
   all_goals (try exact sd)
   all_goals (try refine F_done ?_)
   refine Q_rndN ?_ (by omega) ?_
   rotate_left
   ·rw [← crcTab_set i hi']; rfl
   repeat (first | exact LeL.nil | refine LeL.cons2 ?_ (Le.undef _) | refine LeL.cons2 ?_ (Le.refl _) | refine LeL.cons2 ?_ (Le.sl _) | refine LeL.cons2 ?_ (Le.eq (by first | rfl | exact congrArg _ (by omega))) | refine LeL.cons2 ?_ (Le.eq ?_))
 ·obtain rfl : i = 256 := by omega
  have hr : (List.replicate 256 (DV.int .u32 0)).length = 256 := List.length_replicate
  repeat' (first | (show Ev _ _ _ _; first | refine Ev_seq ?_ | refine W_reg ?_ | refine W_ifF ?_ | refine Ev_exit ?_ | refine Ev_ret ?_) | (show EvD _ _ [] _ _ _; refine W_nil ?_) | (show EvD _ _ (_ :: _) _ _ _; first | refine W_run tok ?_ ?_ (by simp (maxSteps := 1000000) (disch := omega) only [go_sem, over_all, List.take_of_length_le]; with_reducible exact rfl)) | (show RetQ _ _ (RP _ _) _ _; refine R_ret ?_ ?_) | refine Q_thenN ?_ | refine Q_thenE ?_ | refine Q_blkE ?_ | refine Q_rndE ?_ | fail)
  all_goals (try exact sd)
  all_goals (try refine F_done ?_)
  ·rw [List.take_of_length_le (by omega)]
  ·exact ⟨by omega, crcTab_cell _, hl⟩
instance i_check_words  : Con Try.prog 66 [] (True) (.agg (crcTab 256)) := ⟨c_check_words ⟩
theorem c_check_octets (w : BitVec 32) (hC : True) : Pure Try.prog n_check_octets [u32 w] (.agg (bytes (sumD w))) := by
 refine Pure.go tok (rs := [.cell 2 112]) [u32 w, .undef, .undef, .undef, .undef, .undef, .undef, .undef, .undef, .undef, .undef, .undef, .undef, .undef, .undef] Try.func67 (fun σ => ?_)
 repeat' (first | (show Ev _ _ _ _; first | refine Ev_seq ?_ | refine W_reg ?_ | refine Ev_ret ?_) | (show EvD _ _ [] _ _ _; refine W_nil ?_) | (show EvD _ _ (_ :: _) _ _ _; first | refine W_run tok ?_ ?_ (by simp (maxSteps := 1000000) (disch := omega) only [go_sem, u32_shr, u32_low]; with_reducible exact rfl)) | (show RetQ _ _ (RP _ _) _ _; refine R_ret ?_ ?_) | refine Q_thenN ?_ | fail)
 all_goals (try exact sd)
 all_goals (try refine F_done ?_)
 all_goals (try first | rfl | (exfalso; omega) | (simp only [DV.bool.injEq, DV.int.injEq, DV.str.injEq, DV.sl.injEq, DV.agg.injEq, DV.tup.injEq, List.cons.injEq, decide_eq_decide, decide_eq_true_eq, decide_eq_false_iff_not, true_and, and_true]; first | done | omega) | (simp; first | done | omega))
instance i_check_octets (w : BitVec 32) : Con Try.prog 67 [u32 w] (True) (.agg (bytes (sumD w))) := ⟨c_check_octets w ⟩
theorem u32_not2 (w : BitVec 32) : bitsD .xor .u32 (2 ^ 32 - 1) (w.toNat : Int) = ((~~~w).toNat : Int) := u32_not w
theorem ones : (4294967295 : Int) = ((BitVec.allOnes 32).toNat : Int) := by decide
def partsD (ps : List (List UInt8)) : List DV := ps.map fun b => .sl (bytes b)
theorem c_check_Sum (ps : List (List UInt8)) (hC : ps.length < 1099511627776 ∧ ∀ b ∈ ps, b.length < 1099511627776) : Pure Try.prog n_check_Sum [.sl (partsD ps)] (u32 (crcSum ps.flatten)) := by
 refine Pure.go tok (rs := [.tmp 2]) [.sl (partsD ps), .undef, .undef, .undef, .undef, .undef, .undef, .undef, .undef, .undef, .undef, .undef, .undef, .undef, .undef, .undef, .undef, .undef, .undef, .undef, .undef, .undef, .undef, .undef, .undef, .undef, .undef, .undef, .undef, .undef, .undef, .undef, .undef, .undef, .undef, .undef] Try.func50 (fun σ => ?_)
 obtain ⟨h1, h2⟩ := hC
 have hl := crcTab_len 256
 have hr : (List.replicate 256 (DV.int .u32 0)).length = 256 := List.length_replicate
 have hpl : (partsD ps).length = ps.length := List.length_map ..
 repeat' (first | (show Ev _ _ _ _; first | refine Ev_seq ?_ | refine W_reg ?_ | refine Ev_block ?_) | (show EvD _ _ [] _ _ _; refine W_nil ?_) | (show EvD _ _ (_ :: _) _ _ _; first | refine W_run tok ?_ ?_ (by simp (maxSteps := 1000000) (disch := omega) only [go_sem, over_all, IntKind.signed, IntKind.max, u32_not2, hpl]; with_reducible exact rfl) | refine W_callee ?_) | (show EvC _ _ _ _ _ _ _ _ _; refine W_con ?_ ?_) | refine Q_thenN ?_ | fail)
 all_goals (try exact sd)
 all_goals (try refine F_done ?_)
 refine Ev_lp (ps.length) (fun i => [(4, u32 (crcFold (ps.take i).flatten)), (12, i64 i)]) (fun i => ⟨σ.rows, σ.boxes ++ [some ⟨109, crcTab 256⟩], σ.maps⟩) [6, 8, 13, 14, 15, 16, 17, 18, 19, 20, 21, 22, 23, 24, 25, 26, 27, 28, 29, 30, 31, 32, 33] ?_ (by first | rfl | (simp only [List.take_zero, List.append_nil]; done)) (fun i hi => ?_)
 ·exact le1
 by_cases hi' : i < ps.length
 ·have hp := List.getElem?_eq_getElem hi'
  have hbl := h2 _ (List.getElem_mem hi')
  generalize ps[i] = b at hp hbl
  have hg : (partsD ps).getD i .undef = .sl (bytes b) := map_get hp
  repeat' (first | (show Ev _ _ _ _; first | refine Ev_seq ?_ | refine W_reg ?_ | refine Ev_block ?_ | refine W_ifY ?_ | refine Ev_skip ?_) | (show EvD _ _ [] _ _ _; refine W_nil ?_) | (show EvD _ _ (_ :: _) _ _ _; first | refine W_run tok ?_ ?_ (by simp (maxSteps := 1000000) (disch := omega) only [go_sem, hg, hpl]; with_reducible exact rfl)) | refine Q_thenN ?_ | fail)
  all_goals (try exact sd)
  all_goals (try refine F_done ?_)
  refine Ev_lp (b.length) (fun j => [(4, u32 ((b.take j).foldl crcByte (crcFold (ps.take i).flatten))), (18, i64 j)]) (fun j => ⟨σ.rows, σ.boxes ++ [some ⟨109, crcTab 256⟩], σ.maps⟩) [8, 19, 20, 21, 22, 23, 24, 25, 26, 27, 28, 29, 30, 31, 32] ?_ (by first | rfl | (simp only [List.take_zero, List.append_nil]; done)) (fun j hi => ?_)
  ·exact le1
  by_cases hj' : j < b.length
  ·have hq := List.getElem?_eq_getElem hj'
   generalize b[j] = c at hq
   have hg2 : (bytes b).getD j .undef = .int .u8 c.toNat := bytes_get hq
   repeat' (first | (show Ev _ _ _ _; first | refine Ev_seq ?_ | refine W_reg ?_ | refine Ev_block ?_ | refine W_ifY ?_ | refine Ev_skip ?_) | (show EvD _ _ [] _ _ _; refine W_nil ?_) | (show EvD _ _ (_ :: _) _ _ _; first | refine W_run tok ?_ ?_ (by simp (maxSteps := 1000000) (disch := omega) only [go_sem, hg2, u32_shl, u32_shr, u32_low, u8_xor, u32_xor, crcTab_get, hl, wrap_i64_id]; with_reducible exact rfl)) | refine Q_thenN ?_ | refine Q_blkN ?_ | fail)
   all_goals (try exact sd)
   all_goals (try refine F_done ?_)
   ·refine Q_rndN ?_ (by omega) ?_
    rotate_left
    ·rfl
    repeat (first | exact LeL.nil | refine LeL.cons2 ?_ (Le.undef _) | refine LeL.cons2 ?_ (Le.refl _) | refine LeL.cons2 ?_ (Le.sl _) | refine LeL.cons2 ?_ (Le.eq (by first | rfl | exact congrArg _ (by omega))) | refine LeL.cons2 ?_ (Le.eq ?_))
    rw [List.take_add_one, hq, List.foldl_append]; rfl
   ·have := (low8 (List.foldl crcByte (crcFold (List.take i ps).flatten) (List.take j b) >>> 24) ^^^ c).toNat_lt
    exact ⟨by omega, by omega⟩
  ·obtain rfl : j = b.length := by omega
   repeat' (first | (show Ev _ _ _ _; first | refine Ev_seq ?_ | refine W_reg ?_ | refine W_ifN ?_ | refine Ev_exit ?_) | (show EvD _ _ [] _ _ _; refine W_nil ?_) | (show EvD _ _ (_ :: _) _ _ _; first | refine W_run tok ?_ ?_ (by simp (maxSteps := 1000000) (disch := omega) only [go_sem, wrap_i64_id]; with_reducible exact rfl)) | refine Q_thenN ?_ | refine Q_thenE ?_ | refine Q_blkN ?_ | refine Q_blkE ?_ | refine Q_rndE ?_ | fail)
   all_goals (try exact sd)
   all_goals (try refine F_done ?_)
   refine Q_rndN ?_ (by omega) ?_
   rotate_left
   ·rfl
   repeat (first | exact LeL.nil | refine LeL.cons2 ?_ (Le.undef _) | refine LeL.cons2 ?_ (Le.refl _) | refine LeL.cons2 ?_ (Le.sl _) | refine LeL.cons2 ?_ (Le.eq (by first | rfl | exact congrArg _ (by omega))) | refine LeL.cons2 ?_ (Le.eq ?_))
   have e : crcFold (ps.take (i + 1)).flatten = (b.take b.length).foldl crcByte (crcFold (ps.take i).flatten) := by
    rw [List.take_add_one, hp, List.flatten_append, List.take_length, crcFold, List.foldl_append]
    simp [crcFold]
   rw [e]
 ·obtain rfl : i = ps.length := by omega
  repeat' (first | (show Ev _ _ _ _; first | refine Ev_seq ?_ | refine W_reg ?_ | refine W_ifN ?_ | refine Ev_exit ?_ | refine Ev_ret ?_) | (show EvD _ _ [] _ _ _; refine W_nil ?_) | (show EvD _ _ (_ :: _) _ _ _; first | refine W_run tok ?_ ?_ (by simp (maxSteps := 1000000) (disch := omega) only [go_sem, IntKind.signed, IntKind.max, u32_not2, List.take_length]; with_reducible exact rfl)) | (show RetQ _ _ (RP _ _) _ _; refine R_ret ?_ ?_) | refine Q_thenN ?_ | refine Q_thenE ?_ | refine Q_blkE ?_ | refine Q_rndE ?_ | fail)
  all_goals (try exact sd)
  all_goals (try refine F_done ?_)
  all_goals rfl
 exact ⟨crcTab_cell _, hl⟩
instance i_check_Sum (ps : List (List UInt8)) : Con Try.prog 50 [.sl (partsD ps)] (ps.length < 1099511627776 ∧ ∀ b ∈ ps, b.length < 1099511627776) (u32 (crcSum ps.flatten)) := ⟨c_check_Sum ps ⟩
theorem check_Sum1 (b : List UInt8) (h : b.length < 1099511627776) : Pure Try.prog n_check_Sum [.sl [.sl (bytes b)]] (u32 (crcSum b)) := by
 have := c_check_Sum [b] ⟨by simp, by simpa using h⟩
 simpa [partsD] using this
instance i_check_Sum1 (b : List UInt8) : Con Try.prog n_check_Sum [.sl [.sl (bytes b)]] (b.length < 1099511627776) (u32 (crcSum b)) := ⟨check_Sum1 b⟩
theorem c_slices_Clone_s_byte_byte (b : List UInt8) (hC : b.length < 1099511627776) : PureOwn Try.prog n_slices_Clone_s_byte_byte [.sl (bytes b)] (bytes b) 5 1 := by
 refine PureOwn.go tok (rs := [.tmp 2]) [.sl (bytes b), .undef, .undef, .undef, .undef, .undef, .undef, .undef] Try.func68 (fun σ => ?_)
 repeat' (first | (show Ev _ _ _ _; first | refine Ev_seq ?_ | refine W_reg ?_ | refine W_ifB (fun h => ?_) (fun h => ?_) | refine Ev_skip ?_) | (show EvD _ _ [] _ _ _; refine W_nil ?_) | (show EvD _ _ (_ :: _) _ _ _; first | refine W_run tok ?_ ?_ | refine W_isnil tok (fun qn hqn => ?_)) | refine Q_thenN ?_ | fail)
 all_goals (try exact sd)
 all_goals (try refine F_done ?_)
 ·have h0 : b = [] := by
   have := hqn h
   cases b with
   | nil => rfl
   | cons x b => simp [bytes] at this
  subst h0
  refine Ev_seed 2 5 1 rfl (by decide) (by simp only [List.set_cons_succ, List.set_cons_zero]; exact rfl) ?_
  repeat' (first | (show Ev _ _ _ _; refine Ev_ret ?_) | (show RetQ _ _ (RO _ _ _ _) _ _; refine R_own ?_ ?_) | refine Q_thenR ?_ | fail)
  all_goals (try exact sd)
  all_goals (try refine F_done ?_)
  all_goals rfl
 ·repeat' (first | (show Ev _ _ _ _; refine Ev_ret ?_) | (show RetQ _ _ (RO _ _ _ _) _ _; refine R_own ?_ ?_) | fail)
  all_goals (try exact sd)
  all_goals (try refine F_done ?_)
  all_goals rfl
instance i_slices_Clone_s_byte_byte (b : List UInt8) : ConOwn Try.prog 68 [.sl (bytes b)] (b.length < 1099511627776) (bytes b) (5) (1) := ⟨c_slices_Clone_s_byte_byte b ⟩
theorem c_check_Seal (b : List UInt8) (hC : b.length < 1099511627776) : PureOwn Try.prog n_check_Seal [.sl (bytes b)] (bytes (sealD b)) 5 1 := by
 refine PureOwn.go tok (rs := [.tmp 2]) [.sl (bytes b), .undef, .undef, .undef, .undef, .undef, .undef, .undef, .undef, .undef, .undef, .undef] Try.func51 (fun σ => ?_)
 have h4 : (bytes (sumD (crcSum b))).length = 4 := by rw [bytes_len]; rfl
 have h5 : (sumD (crcSum b)).length = 4 := rfl
 have h6 : (sumD (crcSum b)).take 4 = sumD (crcSum b) := List.take_of_length_le (by omega)
 repeat' (first | (show Ev _ _ _ _; first | refine Ev_seq ?_ | (show Ev _ (.region _ _ false) _ _; refine W_reg ?_)) | (show EvD _ _ [] _ _ _; refine W_nil ?_) | (show EvD _ _ (_ :: _) _ _ _; first | refine W_run tok ?_ ?_ (by simp (maxSteps := 1000000) (disch := omega) only [go_sem, over4]; with_reducible exact rfl) | refine W_callee ?_) | (show EvC _ _ _ _ _ _ _ _ _; first | refine W_con ?_ ?_ | refine W_weak ?_) | refine Q_thenN ?_ | fail)
 all_goals (try exact sd)
 all_goals (try refine F_done ?_)
 refine Ev_fixS σ.boxes.length (by (try simp only [app_get, app_get0, List.getElem?_cons_succ, List.getElem?_cons_zero]) <;> exact rfl) (by (try simp (disch := omega) only [List.map_cons, List.map_nil, bfz, bfz1, if_true, if_pos, if_neg, List.drop_zero]) <;> exact rfl) (by (try simp only [app_set, app_set0, List.set_cons_succ, List.set_cons_zero]) <;> exact rfl) ?_
 repeat' (first | (show Ev _ (.region _ _ true) _ _; refine D_start [51, 68] mix ?_) | (show DrD _ _ _ [] _ _ _ _; refine D_nil ?_; try dsimp only) | (show DrD _ (EB _ _) _ (_ :: _) _ _ _ _; first | refine D_runL tok ?_ ?_ (h := by intro R; simp (maxSteps := 1000000) (disch := omega) only [go_sem, h6]; with_reducible exact rfl)) | (show DrD _ _ _ (_ :: _) _ _ _ _; first | refine D_own ?_ ?_ | refine D_eff tok ?_ ?_) | (show Ev _ _ _ _; refine Ev_ret ?_) | (show RetQ _ _ (RO _ _ _ _) _ _; refine R_own ?_ ?_) | refine Q_thenN ?_ | fail)
 all_goals (try exact sd)
 all_goals (try refine F_done ?_)
 ·rw [sealD, bytes_append]
 ·exact ⟨by omega, fun x hx => cells_byte (sumD (crcSum b)) 4 x (by rw [List.take_of_length_le (by omega)]; exact hx)⟩
instance i_check_Seal (b : List UInt8) : ConOwn Try.prog 51 [.sl (bytes b)] (b.length < 1099511627776) (bytes (sealD b)) (5) (1) := ⟨c_check_Seal b ⟩
theorem c_check_Open (b : List UInt8) (hC : b.length < 1099511627776) : Pure Try.prog n_check_Open [.sl (bytes b)] (.tup [.sl (bytes (openD b).1), .int .i64 (openD b).2]) := by
 refine Pure.go tok (rs := [.tmp 2, .tmp 3]) [.sl (bytes b), .undef, .undef, .undef, .undef, .undef, .undef, .undef, .undef, .undef, .undef, .undef, .undef, .undef, .undef, .undef, .undef, .undef, .undef, .undef, .undef, .undef, .undef, .undef, .undef, .undef, .undef, .undef] Try.func73 (fun σ => ?_)
 by_cases h4 : b.length < 4
 ·have ho : openD b = ([], 3) := by rw [openD, if_pos h4]
  rw [ho]
  repeat' (first | (show Ev _ _ _ _; first | refine Ev_seq ?_ | refine W_reg ?_ | refine Ev_block ?_ | refine W_ifY ?_ | refine Ev_ret ?_) | (show EvD _ _ [] _ _ _; refine W_nil ?_) | (show EvD _ _ (_ :: _) _ _ _; first | refine W_run tok ?_ ?_ (by simp (maxSteps := 1000000) (disch := omega) only [go_sem, wrap_i64_id]; with_reducible exact rfl)) | (show RetQ _ _ (RP _ _) _ _; refine R_ret ?_ ?_) | (show FrzTo _ _ _ _; refine F_weak ?_) | refine Q_thenN ?_ | refine Q_thenR ?_ | refine Q_blkR ?_ | fail)
  all_goals (try exact sd)
  all_goals (try refine F_done ?_)
  all_goals rfl
 ·have hn : (b.length : Int) - 4 = ((b.length - 4 : Nat) : Int) := by omega
  obtain ⟨C, hC', he⟩ := eqD_bytes T_112 rfl T_5 rfl rfl 98 (b.drop (b.length - 4)) (sumD (crcSum (b.take (b.length - 4)))) (by simp; omega) rfl
  have ht4 : (b.drop (b.length - 4)).take 4 = b.drop (b.length - 4) := List.take_of_length_le (by simp; omega)
  repeat' (first | (show Ev _ (.region _ _ true) _ _; refine D_start [51, 68] mix ?_) | (show DrD _ _ _ [] _ _ _ _; refine D_nil ?_; try dsimp only) | (show DrD _ (EB _ _) _ (_ :: _) _ _ _ _; first | refine D_runL tok ?_ ?_ (h := by intro R; simp (maxSteps := 1000000) (disch := omega) only [go_sem, wrap_i64_id, hn, List.take_length, ht4, ↓he]; with_reducible exact rfl)) | (show DrD _ _ _ (_ :: _) _ _ _ _; refine D_con ?_ ?_) | (show Ev _ _ _ _; first | refine Ev_seq ?_ | refine W_reg ?_ | refine Ev_block ?_ | refine W_ifN ?_ | refine W_ifP (fun h => ?_) (fun h => ?_) | refine Ev_skip ?_ | refine Ev_ret ?_) | (show EvD _ _ [] _ _ _; refine W_nil ?_) | (show EvD _ _ (_ :: _) _ _ _; first | refine W_run tok ?_ ?_ (by simp (maxSteps := 1000000) (disch := omega) only [go_sem, wrap_i64_id, hn, List.take_length, ht4, ↓he]; with_reducible exact rfl) | refine W_callee ?_) | (show EvC _ _ _ _ _ _ _ _ _; refine W_conOwn ?_ ?_) | (show RetQ _ _ (RP _ _) _ _; refine R_ret ?_ ?_) | (show FrzTo _ _ _ _; first | refine F_row ?_ | refine F_weak ?_) | refine Q_thenN ?_ | refine Q_thenR ?_ | refine Q_blkN ?_ | refine Q_blkR ?_ | fail)
  all_goals (try exact sd)
  all_goals (try refine F_done ?_)
  ·rw [openD, if_neg h4, if_neg h]; rfl
  ·rw [openD, if_neg h4, if_pos (Classical.not_not.1 h)]; rfl
instance i_check_Open (b : List UInt8) : Con Try.prog 73 [.sl (bytes b)] (b.length < 1099511627776) (.tup [.sl (bytes (openD b).1), .int .i64 (openD b).2]) := ⟨c_check_Open b ⟩
theorem c_bursarref03_Sum (s : List UInt8) (hC : s.length < 1099511627776) : Pure Try.prog n_bursarref03_Sum [.str s] (u32 (crcSum s)) := by
 refine Pure.go tok (rs := [.tmp 2]) [.str s, .undef, .undef, .undef, .undef, .undef, .undef, .undef, .undef, .undef, .undef, .undef, .undef, .undef, .undef, .undef, .undef, .undef, .undef, .undef, .undef, .undef, .undef, .undef, .undef, .undef, .undef, .undef, .undef, .undef, .undef, .undef, .undef] Try.func41 (fun σ => ?_)
 repeat' (first | (show Ev _ _ _ _; first | refine Ev_seq ?_ | refine W_reg ?_ | refine Ev_block ?_) | (show EvD _ _ [] _ _ _; refine W_nil ?_) | (show EvD _ _ (_ :: _) _ _ _; refine W_run tok ?_ ?_) | refine Q_thenN ?_ | fail)
 all_goals (try exact sd)
 all_goals (try refine F_done ?_)
 refine Ev_lp (s.length) (fun i => [(3, u32 ((s.take i).foldl refByte (BitVec.allOnes 32))), (4, i64 i)]) (fun i => σ) [5, 6, 7, 8, 9, 10, 11, 12, 13, 14, 15, 16, 17, 18, 19, 20, 21, 22, 23, 24, 25, 26, 27, 28, 29, 30] ?_ (by first | rfl | (simp only [List.take_zero, List.append_nil]; done)) (fun i hi => ?_)
 ·exact le1
 by_cases hi' : i < s.length
 ·have hq := List.getElem?_eq_getElem hi'
  have hq2 : s.getD i 0 = s[i] := by rw [List.getD_eq_getElem?_getD, hq]; rfl
  generalize s[i] = c at hq hq2
  repeat' (first | (show Ev _ _ _ _; first | refine Ev_seq ?_ | refine W_reg ?_ | refine Ev_block ?_ | refine W_ifY ?_ | refine Ev_skip ?_) | (show EvD _ _ [] _ _ _; refine W_nil ?_) | (show EvD _ _ (_ :: _) _ _ _; first | refine W_run tok ?_ ?_ (by simp (maxSteps := 1000000) (disch := omega) only [go_sem, hq2, u8_u32, u32_mul24, u32_xor]; with_reducible exact rfl)) | refine Q_thenN ?_ | fail)
  all_goals (try exact sd)
  all_goals (try refine F_done ?_)
  generalize hv : (s.take i).foldl refByte (BitVec.allOnes 32) ^^^ (c.toBitVec.setWidth 32) <<< 24 = v
  refine Ev_lp (8) (fun k => [(3, u32 (crcSteps k v)), (5, i64 k)]) (fun k => σ) [6, 20, 21, 22, 23, 24, 25, 26, 27, 28, 29, 30] ?_ (by first | rfl | (simp only [List.take_zero, List.append_nil]; done)) (fun k hi => ?_)
  ·exact le1
  by_cases hk' : k < 8
  ·repeat' (first | (show Ev _ _ _ _; first | refine Ev_seq ?_ | refine W_reg ?_ | refine Ev_block ?_ | refine W_ifY ?_ | refine W_ifB (fun h => ?_) (fun h => ?_) | refine Ev_skip ?_) | (show EvD _ _ [] _ _ _; refine W_nil ?_) | (show EvD _ _ (_ :: _) _ _ _; first | refine W_run tok ?_ ?_ (by simp (maxSteps := 1000000) (disch := omega) only [go_sem, u32_msb, u32_mul2, u32_xorc, wrap_i64_id]; with_reducible exact rfl)) | refine Q_thenN ?_ | refine Q_blkN ?_ | fail)
   all_goals (try exact sd)
   all_goals (try refine F_done ?_)
   ·refine Q_rndN ?_ (by omega) ?_
    rotate_left
    ·rfl
    repeat (first | exact LeL.nil | refine LeL.cons2 ?_ (Le.undef _) | refine LeL.cons2 ?_ (Le.refl _) | refine LeL.cons2 ?_ (Le.sl _) | refine LeL.cons2 ?_ (Le.eq (by first | rfl | exact congrArg _ (by omega))) | refine LeL.cons2 ?_ (Le.eq ?_))
    rw [crcSteps, ref_step, if_pos h]
   ·refine Q_rndN ?_ (by omega) ?_
    rotate_left
    ·rfl
    repeat (first | exact LeL.nil | refine LeL.cons2 ?_ (Le.undef _) | refine LeL.cons2 ?_ (Le.refl _) | refine LeL.cons2 ?_ (Le.sl _) | refine LeL.cons2 ?_ (Le.eq (by first | rfl | exact congrArg _ (by omega))) | refine LeL.cons2 ?_ (Le.eq ?_))
    rw [crcSteps, ref_step, if_neg (by rw [h]; simp)]
  ·obtain rfl : k = 8 := by omega
   repeat' (first | (show Ev _ _ _ _; first | refine Ev_seq ?_ | refine W_reg ?_ | refine W_ifF ?_ | refine Ev_exit ?_) | (show EvD _ _ [] _ _ _; refine W_nil ?_) | (show EvD _ _ (_ :: _) _ _ _; first | refine W_run tok ?_ ?_ (by simp (maxSteps := 1000000) (disch := omega) only [go_sem, wrap_i64_id]; with_reducible exact rfl)) | refine Q_thenN ?_ | refine Q_thenE ?_ | refine Q_blkN ?_ | refine Q_blkE ?_ | refine Q_rndE ?_ | fail)
   all_goals (try exact sd)
   all_goals (try refine F_done ?_)
   refine Q_rndN ?_ (by omega) ?_
   rotate_left
   ·rfl
   repeat (first | exact LeL.nil | refine LeL.cons2 ?_ (Le.undef _) | refine LeL.cons2 ?_ (Le.refl _) | refine LeL.cons2 ?_ (Le.sl _) | refine LeL.cons2 ?_ (Le.eq (by first | rfl | exact congrArg _ (by omega))) | refine LeL.cons2 ?_ (Le.eq ?_))
   rw [List.take_add_one, hq, List.foldl_append, ← hv]; rfl
 ·obtain rfl : i = s.length := by omega
  repeat' (first | (show Ev _ _ _ _; first | refine Ev_seq ?_ | refine W_reg ?_ | refine W_ifN ?_ | refine Ev_exit ?_ | refine Ev_ret ?_) | (show EvD _ _ [] _ _ _; refine W_nil ?_) | (show EvD _ _ (_ :: _) _ _ _; first | refine W_run tok ?_ ?_ (by simp (maxSteps := 1000000) (disch := omega) only [go_sem, u32_suball]; with_reducible exact rfl)) | (show RetQ _ _ (RP _ _) _ _; refine R_ret ?_ ?_) | refine Q_thenN ?_ | refine Q_thenE ?_ | refine Q_blkE ?_ | refine Q_rndE ?_ | fail)
  all_goals (try exact sd)
  all_goals (try refine F_done ?_)
  simp only [List.take_length, refFold_eq]; rfl
instance i_bursarref03_Sum (s : List UInt8) : Con Try.prog 41 [.str s] (s.length < 1099511627776) (u32 (crcSum s)) := ⟨c_bursarref03_Sum s ⟩
theorem c_bursarref03_Seal (s : List UInt8) (hC : s.length < 1099511627776) : Pure Try.prog n_bursarref03_Seal [.str s] (.str (sealD s)) := by
 refine Pure.go tok (rs := [.tmp 2]) [.str s, .undef, .undef, .undef, .undef, .undef, .undef, .undef, .undef, .undef, .undef, .undef, .undef, .undef, .undef, .undef, .undef, .undef, .undef, .undef, .undef, .undef, .undef, .undef] Try.func39 (fun σ => ?_)
 repeat' (first | (show Ev _ _ _ _; first | refine Ev_seq ?_ | refine W_reg ?_ | refine Ev_ret ?_) | (show EvD _ _ [] _ _ _; refine W_nil ?_) | (show EvD _ _ (_ :: _) _ _ _; first | refine W_run tok ?_ ?_ (by simp (maxSteps := 1000000) (disch := omega) only [go_sem, q24, q16, q8, q0]; with_reducible exact rfl) | refine W_callee ?_) | (show EvC _ _ _ _ _ _ _ _ _; refine W_con ?_ ?_) | (show RetQ _ _ (RP _ _) _ _; refine R_ret ?_ ?_) | refine Q_thenN ?_ | fail)
 all_goals (try exact sd)
 all_goals (try refine F_done ?_)
 all_goals rfl
instance i_bursarref03_Seal (s : List UInt8) : Con Try.prog 39 [.str s] (s.length < 1099511627776) (.str (sealD s)) := ⟨c_bursarref03_Seal s ⟩
end Go.Val.Ytlfnmgmbmgacgaa
