/- Chapter 08: which nodes may be, walked. -/
import Derived.Test.YtgjmpefhjdgkoaaN08c
namespace Go.Val.Ytgjmpefhjdgkoaa
open Go Go.Val Go.Proofs Go.Proofs.Ytgjmpefhjdgkoaa
attribute [local irreducible] Ev EvD EvC thenQ blockQ RoundG RetQ
set_option maxRecDepth 100000
set_option maxHeartbeats 4000000
set_option linter.unusedSimpArgs false
set_option linter.unusedVariables false
theorem R_does {slots : List DV} {σ τ : Store} {C : Prop} {d r : DV} {rs : List ResultVar} (hx : r = d) (hs : σ = τ) (hc : C) (h : resD T ⟨slots, σ⟩ rs = some (C, r) := by simp (disch := omega) only [go_sem, resD, resDs, resD1]; exact rfl) : RetQ T rs (one d τ) .ret ⟨slots, σ⟩ := by
 unfold RetQ
 exact ⟨C, r, h, hc, hx, hs⟩
def metM (l : List Int) : List (DV × DV) := l.map fun (k : Int) => (.int .i64 k, .bool true)
theorem metM_it : ∀ l : List Int, isIter (metM l) = false
 | [] => rfl
 | _ :: _ => rfl
theorem metM_keys (l : List Int) : KeysTy T 3 (metM l) := by
 intro p hp
 obtain ⟨k, _, rfl⟩ := List.mem_map.1 hp
 simp only [KeyTy, go_sem]
theorem eqk_int (x k : Int) : eqk (.int .i64 x) (.int .i64 k) = decide (x = k) := by simp [eqk, eqk1]; rfl
theorem metM_get : ∀ (l : List Int) (x : Int), lookR (mget (metM l) (.int .i64 x)) (.bool false) false = .bool (decide (x ∈ l))
 | [], x => by simp [metM, mget, lookR]
 | k :: l, x => by
  have ih := metM_get l x
  unfold metM at ih ⊢
  rw [List.map_cons, mget, eqk_int]
  by_cases h : x = k
  ·subst h; simp [lookR]
  ·simp only [h, decide_false, Bool.false_eq_true, if_false]
   rw [ih]; simp [h]
theorem metM_put : ∀ (l : List Int) (x : Int), x ∉ l → mput (metM l) (.int .i64 x) (.bool true) = metM (l ++ [x])
 | [], _, _ => rfl
 | k :: l, x, h => by
  simp only [List.mem_cons, not_or] at h
  have ih := metM_put l x h.2
  unfold metM at ih ⊢
  rw [List.map_cons, mput, eqk_int, decide_eq_false h.1, ih]; rfl
theorem c_met (R : List (Option Row)) (bx : List (Option Box)) (ms : List (Option (List (DV × DV)))) (M M' : List (DV × DV)) (k : Int) (was : Bool) (hit : isIter M = false) (hK : KeysTy T 3 M) (hg : lookR (mget M (.int .i64 k)) (.bool false) false = .bool was) (hp : mput M (.int .i64 k) (.bool true) = M') :
  Does Try.prog n_node_May_2 [.int .i64 k, .ptr bx.length 0] ⟨R, bx ++ [some ⟨90, [.mp ms.length]⟩], ms ++ [some M]⟩ (one (.bool (was || decide (k < 0) || decide (200 ≤ k))) ⟨R, bx ++ [some ⟨90, [.mp ms.length]⟩], ms ++ [some M']⟩) := by
 refine Does.go tok (rs := [.tmp 3]) [.int .i64 k, .ptr bx.length 0, .undef, .undef, .undef, .undef, .undef, .undef, .undef, .undef, .undef, .undef, .undef, .undef, .undef, .undef, .undef, .undef, .undef] Try.func56 ?_
 cases was
 ·by_cases h1 : k < 0
  ·have d1 : decide (k < 0) = true := decide_eq_true h1
   repeat' (first | (show Ev _ _ _ _; first | refine Ev_seq ?_ | refine W_reg ?_ | refine Ev_ret ?_) | (show EvD _ _ [] _ _ _; refine W_nil ?_) | (show EvD _ _ (⟨some _, .lookup _ _ _ _, _, _, _, _⟩ :: _) _ _ _; refine W_look tok ?_) | (show EvD _ _ (⟨none, .mapUpdate _ _ _ _, _, _, _, _⟩ :: _) _ _ _; refine W_mput tok ?_) | (show EvD _ _ (_ :: _) _ _ _; first | refine W_run tok ?_ ?_ (by simp (maxSteps := 1000000) (disch := omega) only [go_sem, d1]; with_reducible exact rfl)) | refine Q_thenN ?_ | fail)
   all_goals (try exact sd)
   all_goals (try refine F_done ?_)
   refine R_does ?_ rfl ?_
   ·rw [d1]; rfl
   ·exact trivial
  ·have d1 : decide (k < 0) = false := decide_eq_false h1
   repeat' (first | (show Ev _ _ _ _; first | refine Ev_seq ?_ | refine W_reg ?_ | refine Ev_ret ?_) | (show EvD _ _ [] _ _ _; refine W_nil ?_) | (show EvD _ _ (⟨some _, .lookup _ _ _ _, _, _, _, _⟩ :: _) _ _ _; refine W_look tok ?_) | (show EvD _ _ (⟨none, .mapUpdate _ _ _ _, _, _, _, _⟩ :: _) _ _ _; refine W_mput tok ?_) | (show EvD _ _ (_ :: _) _ _ _; first | refine W_run tok ?_ ?_ (by simp (maxSteps := 1000000) (disch := omega) only [go_sem, d1]; with_reducible exact rfl)) | refine Q_thenN ?_ | fail)
   all_goals (try exact sd)
   all_goals (try refine F_done ?_)
   refine R_does ?_ rfl ?_
   ·rw [d1]; rfl
   ·exact trivial
 ·repeat' (first | (show Ev _ _ _ _; first | refine Ev_seq ?_ | refine W_reg ?_ | refine Ev_ret ?_) | (show EvD _ _ [] _ _ _; refine W_nil ?_) | (show EvD _ _ (⟨some _, .lookup _ _ _ _, _, _, _, _⟩ :: _) _ _ _; refine W_look tok ?_) | (show EvD _ _ (⟨none, .mapUpdate _ _ _ _, _, _, _, _⟩ :: _) _ _ _; refine W_mput tok ?_) | (show EvD _ _ (_ :: _) _ _ _; refine W_run tok ?_ ?_) | refine Q_thenN ?_ | fail)
  all_goals (try exact sd)
  all_goals (try refine F_done ?_)
  refine R_does ?_ rfl ?_
  ·rfl
  ·exact trivial
def badAtC (C : List Int) (i : Nat) : Bool := decide (C.getD i 0 ∈ C.take i) || decide (C.getD i 0 < 0) || decide (200 ≤ C.getD i 0)
theorem take_snoc {C : List Int} {i : Nat} (h : i < C.length) {c : Int} (hc : C.getD i 0 = c) : C.take i ++ [c] = C.take (i + 1) := by
 rw [List.take_add_one, List.getElem?_eq_getElem h, ← hc, List.getD_eq_getElem?_getD, List.getElem?_eq_getElem h]; rfl
abbrev metB (n : Nat) : Option Box := some ⟨90, [.mp n]⟩
theorem c_IdxI (R : List (Option Row)) (bx : List (Option Box)) (ms : List (Option (List (DV × DV)))) (C : List Int) (hl : C.length < 1099511627776) (m : Nat) (hm : m ≤ C.length) (hgood : ∀ i, i < m → badAtC C i = false) (hbad : m < C.length → badAtC C m = true) :
  ∃ M', Does Try.prog n_slices_IndexFunc_s_int_int [.sl (kidsD C), .fn (.func 56) [] [.ptr bx.length 0]] ⟨R, bx ++ [some ⟨90, [.mp ms.length]⟩], ms ++ [some []]⟩ (one (.int .i64 (if m < C.length then (m : Int) else -1)) ⟨R, bx ++ [some ⟨90, [.mp ms.length]⟩], ms ++ [some M']⟩) := by
 refine ⟨if m < C.length then mput (metM (C.take m)) (.int .i64 (C.getD m 0)) (.bool true) else metM (C.take m), ?_⟩
 have hsC := kidsD_len C
 refine Does.go tok (rs := [.tmp 4]) [.sl (kidsD C), .fn (.func 56) [] [.ptr bx.length 0], .undef, .undef, .undef, .undef, .undef, .undef, .undef, .undef, .undef, .undef, .undef, .undef, .undef, .undef, .undef, .undef, .undef] Try.func83 ?_
 repeat' (first | (show Ev _ _ _ _; first | refine Ev_seq ?_ | refine W_reg ?_ | refine Ev_block ?_) | (show EvD _ _ [] _ _ _; refine W_nil ?_) | (show EvD _ _ (_ :: _) _ _ _; refine W_run tok ?_ ?_) | refine Q_thenN ?_ | fail)
 all_goals (try exact sd)
 all_goals (try refine F_done ?_)
 refine Ev_lp (m) (fun i => [(8, i64 i)]) (fun i => ⟨R, bx ++ [some ⟨90, [.mp ms.length]⟩], ms ++ [some (metM (C.take i))]⟩) [4, 5, 9, 10, 11, 12, 13, 14, 15, 16, 17, 18] ?_ (by first | rfl | (simp only [List.take_zero, List.append_nil]; done)) (fun i hi => ?_)
 ·exact le1
 by_cases hi' : i < m
 ·obtain ⟨c, hc, hg⟩ := cget (C := C) (i := i) (by omega)
  have hb := hgood i hi'
  simp only [badAtC, hc, Bool.or_eq_false_iff, decide_eq_false_iff_not] at hb
  obtain ⟨⟨b1, b2⟩, b3⟩ := hb
  have hget := metM_get (C.take i) c
  rw [decide_eq_false b1] at hget
  have hput := metM_put (C.take i) c b1
  rw [take_snoc (by omega) hc] at hput
  have hD := c_met R bx ms _ _ c false (metM_it _) (metM_keys _) hget hput
  rw [decide_eq_false b2, decide_eq_false b3] at hD
  simp only [Bool.or_self] at hD
  repeat' (first | (show Ev _ _ _ _; first | refine Ev_seq ?_ | refine W_reg ?_ | refine Ev_block ?_ | refine W_ifY ?_ | refine Ev_skip ?_) | (show EvD _ _ [] _ _ _; refine W_nil ?_) | (show EvD _ _ (_ :: _) _ _ _; first | refine W_run tok ?_ ?_ (by simp (maxSteps := 1000000) (disch := omega) only [go_sem, wrap_i64_id, hg]; with_reducible exact rfl) | refine W_callee ?_) | refine Q_thenN ?_ | fail)
  all_goals (try exact sd)
  all_goals (try refine F_done ?_)
  refine W_does hD ?_
  repeat' (first | (show Ev _ _ _ _; first | refine W_reg ?_ | refine W_ifF ?_ | refine Ev_skip ?_) | (show EvD _ _ [] _ _ _; refine W_nil ?_) | (show EvD _ _ (_ :: _) _ _ _; first | refine W_run tok ?_ ?_ (by simp (maxSteps := 1000000) (disch := omega) only [go_sem, wrap_i64_id]; with_reducible exact rfl)) | refine Q_thenN ?_ | refine Q_blkN ?_ | fail)
  all_goals (try exact sd)
  all_goals (try refine F_done ?_)
  refine Q_rndN ?_ (by omega) ?_
  rotate_left
  ·rfl
  repeat (first | exact LeL.nil | refine LeL.cons2 ?_ (Le.undef _) | refine LeL.cons2 ?_ (Le.refl _) | refine LeL.cons2 ?_ (Le.sl _) | refine LeL.cons2 ?_ (Le.eq (by first | rfl | exact congrArg _ (by omega))) | refine LeL.cons2 ?_ (Le.eq ?_))
 ·obtain rfl : i = m := by omega
  by_cases hil : i < C.length
  ·obtain ⟨c, hc, hg⟩ := cget (C := C) (i := i) (by omega)
   have hb := hbad hil
   rw [if_pos hil, if_pos hil, hc]
   unfold badAtC at hb
   rw [hc] at hb
   have hget := metM_get (C.take i) c
   have hD := c_met R bx ms _ _ c _ (metM_it _) (metM_keys _) hget rfl
   rw [hb] at hD
   repeat' (first | (show Ev _ _ _ _; first | refine Ev_seq ?_ | refine W_reg ?_ | refine Ev_block ?_ | refine W_ifY ?_ | refine Ev_skip ?_) | (show EvD _ _ [] _ _ _; refine W_nil ?_) | (show EvD _ _ (_ :: _) _ _ _; first | refine W_run tok ?_ ?_ (by simp (maxSteps := 1000000) (disch := omega) only [go_sem, wrap_i64_id, hg]; with_reducible exact rfl) | refine W_callee ?_) | refine Q_thenN ?_ | fail)
   all_goals (try exact sd)
   all_goals (try refine F_done ?_)
   refine W_does hD ?_
   repeat' (first | (show Ev _ _ _ _; first | refine Ev_seq ?_ | refine W_reg ?_ | refine W_ifT ?_ | refine Ev_ret ?_) | (show EvD _ _ [] _ _ _; refine W_nil ?_) | (show EvD _ _ (_ :: _) _ _ _; first | refine W_run tok ?_ ?_ (by simp (maxSteps := 1000000) (disch := omega) only [go_sem, wrap_i64_id]; with_reducible exact rfl)) | refine Q_thenN ?_ | refine Q_thenR ?_ | refine Q_blkR ?_ | refine Q_rndR ?_ | fail)
   all_goals (try exact sd)
   all_goals (try refine F_done ?_)
   refine R_does ?_ rfl ?_
   ·rfl
   ·exact trivial
  ·rw [if_neg hil, if_neg hil]
   repeat' (first | (show Ev _ _ _ _; first | refine Ev_seq ?_ | refine W_reg ?_ | refine W_ifN ?_ | refine Ev_exit ?_ | refine Ev_ret ?_) | (show EvD _ _ [] _ _ _; refine W_nil ?_) | (show EvD _ _ (_ :: _) _ _ _; first | refine W_run tok ?_ ?_ (by simp (maxSteps := 1000000) (disch := omega) only [go_sem, wrap_i64_id]; with_reducible exact rfl)) | refine Q_thenN ?_ | refine Q_thenE ?_ | refine Q_blkE ?_ | refine Q_rndE ?_ | fail)
   all_goals (try exact sd)
   all_goals (try refine F_done ?_)
   refine R_does ?_ rfl ?_
   ·rfl
   ·exact trivial
theorem c_HasI (R : List (Option Row)) (bx : List (Option Box)) (ms : List (Option (List (DV × DV)))) (C : List Int) (hl : C.length < 1099511627776) :
  ∃ M', Does Try.prog n_slices_ContainsFunc_s_int_int [.sl (kidsD C), .fn (.func 56) [] [.ptr bx.length 0]] ⟨R, bx ++ [some ⟨90, [.mp ms.length]⟩], ms ++ [some []]⟩ (one (.bool (!allN C.length (fun i => !badAtC C i))) ⟨R, bx ++ [some ⟨90, [.mp ms.length]⟩], ms ++ [some M']⟩) := by
 obtain ⟨m, hm, hgood, hbad, hall⟩ := firstBad C.length (fun i => !badAtC C i)
 obtain ⟨M', hD⟩ := c_IdxI R bx ms C hl m hm (fun i hi => by simpa using hgood i hi) (fun h => by simpa using hbad h)
 refine ⟨M', ?_⟩
 rw [hall]
 refine Does.go tok (rs := [.tmp 4]) [.sl (kidsD C), .fn (.func 56) [] [.ptr bx.length 0], .undef, .undef, .undef, .undef, .undef, .undef, .undef] Try.func57 ?_
 repeat' (first | (show Ev _ _ _ _; first | refine Ev_seq ?_ | refine W_reg ?_) | (show EvD _ _ [] _ _ _; refine W_nil ?_) | (show EvD _ _ (_ :: _) _ _ _; first | refine W_run tok ?_ ?_ | refine W_callee ?_) | refine Q_thenN ?_ | fail)
 all_goals (try exact sd)
 all_goals (try refine F_done ?_)
 refine W_does hD ?_
 repeat' (first | (show Ev _ _ _ _; refine Ev_ret ?_) | (show EvD _ _ [] _ _ _; refine W_nil ?_) | (show EvD _ _ (_ :: _) _ _ _; refine W_run tok ?_ ?_) | refine Q_thenN ?_ | fail)
 all_goals (try exact sd)
 all_goals (try refine F_done ?_)
 refine R_does ?_ rfl ?_
 case refine_2 => exact trivial
 by_cases h : m < C.length
 ·rw [if_pos h, decide_eq_false (by omega : ¬ m = C.length)]; simp
 ·rw [if_neg h, decide_eq_true (by omega : m = C.length)]; simp
theorem of_not {p : Prop} [Decidable p] (h : ¬ ((!decide p) = true)) : p := by
 by_cases hp : p
 ·exact hp
 ·exact absurd (by rw [decide_eq_false hp]; rfl) h
theorem of_not2 {p q : Prop} [Decidable p] [Decidable q] (h : ¬ ((!decide p || !decide q) = true)) : p ∧ q := by
 by_cases hp : p
 ·by_cases hq : q
  ·exact ⟨hp, hq⟩
  ·exact absurd (by rw [decide_eq_false hq]; simp) h
 ·exact absurd (by rw [decide_eq_false hp]; rfl) h
theorem allK_eq (K : List (List UInt8)) : allN K.length (okK K) = (!(strsD K).any badK && risB K) := by
 rw [Bool.eq_iff_iff]
 simp only [Bool.and_eq_true, Bool.not_eq_true', risB, allN_iff, okK, Bool.or_eq_true, decide_eq_true_eq, List.any_eq_false, lessAt]
 constructor
 ·intro h
  refine ⟨fun x hx => ?_, fun i hi => ?_⟩
  ·obtain ⟨k, hk, rfl⟩ := List.mem_map.1 hx
   obtain ⟨i, hi, rfl⟩ := List.getElem_of_mem hk
   have := (h i hi).1
   rw [List.getD_eq_getElem?_getD, List.getElem?_eq_getElem hi] at this
   simp only [Option.getD_some] at this
   simp [badK, this]
  ·have := (h (i + 1) (by omega)).2.resolve_left (by omega)
   simpa using this
 ·rintro ⟨h1, h2⟩ i hi
  refine ⟨?_, ?_⟩
  ·have := h1 (.str (K.getD i [])) (List.mem_map.2 ⟨_, by rw [List.getD_eq_getElem?_getD, List.getElem?_eq_getElem hi]; exact List.getElem_mem hi, rfl⟩)
   exact of_not this
  ·rcases Nat.eq_zero_or_pos i with rfl | h0
   ·exact .inl rfl
   ·right
    have := h2 (i - 1) (by omega)
    rwa [show i - 1 + 1 = i by omega] at this
theorem keysOf_get {P : List PairB} {i : Nat} (h : i < P.length) : (keysOf P).getD i [] = (P.getD i ([], [])).1 := by
 simp [keysOf, List.getD_eq_getElem?_getD, List.getElem?_map, List.getElem?_eq_getElem h]
theorem allP_eq (P : List PairB) : allN P.length (okP P) = (!(pairsD P).any badP && risB (keysOf P)) := by
 rw [Bool.eq_iff_iff]
 simp only [Bool.and_eq_true, Bool.not_eq_true', risB, allN_iff, okP, Bool.or_eq_true, decide_eq_true_eq, List.any_eq_false, lessAt, keysOf_len]
 constructor
 ·intro h
  refine ⟨fun x hx => ?_, fun i hi => ?_⟩
  ·obtain ⟨k, hk, rfl⟩ := List.mem_map.1 hx
   obtain ⟨i, hi, rfl⟩ := List.getElem_of_mem hk
   have := (h i hi).1
   rw [List.getD_eq_getElem?_getD, List.getElem?_eq_getElem hi] at this
   simp only [Option.getD_some] at this
   simp [pairD, badP, this]
  ·have := (h (i + 1) (by omega)).2.resolve_left (by omega)
   rw [keysOf_get (by omega), keysOf_get (by omega)]
   simpa using this
 ·rintro ⟨h1, h2⟩ i hi
  refine ⟨?_, ?_⟩
  ·have := h1 (pairD (P.getD i ([], []))) (List.mem_map.2 ⟨_, by rw [List.getD_eq_getElem?_getD, List.getElem?_eq_getElem hi]; exact List.getElem_mem hi, rfl⟩)
   exact of_not2 this
  ·rcases Nat.eq_zero_or_pos i with rfl | h0
   ·exact .inl rfl
   ·right
    have := h2 (i - 1) (by omega)
    rw [keysOf_get (by omega), keysOf_get (by omega)] at this
    rwa [show i - 1 + 1 = i by omega] at this
theorem allC_eq (C : List Int) : allN C.length (okC C) = allN C.length (fun i => !badAtC C i) := by
 rw [Bool.eq_iff_iff]
 simp only [allN_iff, okC, badAtC, Bool.and_eq_true, Bool.not_eq_true', Bool.or_eq_false_iff, decide_eq_true_eq, decide_eq_false_iff_not]
 constructor
 ·intro h i hi
  obtain ⟨⟨h1, h2⟩, h3⟩ := h i hi
  refine ⟨⟨fun hm => ?_, by omega⟩, by omega⟩
  obtain ⟨k, hk, he⟩ := List.getElem_of_mem hm
  have hk' : k < i := by simp at hk; omega
  refine h3 k hk' ?_
  rw [← he, List.getD_eq_getElem?_getD, List.getElem?_eq_getElem (by omega), List.getElem_take]; rfl
 ·intro h i hi
  obtain ⟨⟨h1, h2⟩, h3⟩ := h i hi
  refine ⟨⟨by omega, by omega⟩, fun k hk he => h1 ?_⟩
  rw [← he, List.getD_eq_getElem?_getD, List.getElem?_eq_getElem (by omega)]
  exact List.mem_take_iff_getElem.2 ⟨k, by omega, rfl⟩
end Go.Val.Ytgjmpefhjdgkoaa
