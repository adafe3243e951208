/- Chapter 06: steps one behind the other on a disk, walked. -/
import Derived.Test.YtlfnmgmbmgacgaaW06b
namespace Go.Val.Ytlfnmgmbmgacgaa
open Go Go.Val Go.Proofs Go.Proofs.Ytlfnmgmbmgacgaa
attribute [local irreducible] Ev EvD EvC thenQ blockQ RoundG RetQ
set_option maxRecDepth 100000
set_option maxHeartbeats 4000000
set_option linter.unusedSimpArgs false
set_option linter.unusedVariables false
abbrev Dk := List (List UInt8) × List (Int × List UInt8) × Int × Bool
abbrev dkD (s : Dk) : DV := diskD s.1 s.2.1 s.2.2.1 s.2.2.2
def dkOK (m : Nat) (s : Dk) : Prop := s.1.length < 1099511627776 ∧ s.2.1.length ≤ m ∧ s.2.2.1 < 9223372036854775808
theorem dkOK.sz {m : Nat} {s : Dk} (h : dkOK m s) (hm : m < 1099511627776) : szP s.1 s.2.1 := ⟨h.1, by have := h.2.1; omega⟩
def zeroK : Dk := ([], [], 0, false)
def wrF (at_ : Int) (b : List UInt8) (s : Dk) : Dk × Int :=
 if b.length = 0 then (s, 0) else
  (if writeP (writeE s.1 s.2.1 s.2.2.1 s.2.2.2 at_ b) then (s.1, addW s.2.1 at_ b (fitN s.2.2.1 s.2.2.2 (b.length / 64)), leftL s.2.2.1 (fitN s.2.2.1 s.2.2.2 (b.length / 64)), decide (writeE s.1 s.2.1 s.2.2.1 s.2.2.2 at_ b = 10)) else zeroK,
   writeE s.1 s.2.1 s.2.2.1 s.2.2.2 at_ b)
def flF (s : Dk) : Dk × Int :=
 ((if flushE s.1 s.2.1 s.2.2.1 s.2.2.2 = 0 then flushS s.1 s.2.1 else if flushE s.1 s.2.1 s.2.2.1 s.2.2.2 = 10 then s.1 else [], if flushE s.1 s.2.1 s.2.2.1 s.2.2.2 = 10 then s.2.1 else [],
  if flushE s.1 s.2.1 s.2.2.1 s.2.2.2 = 1 then 0 else spendL s.2.2.1 s.2.2.2, decide (flushE s.1 s.2.1 s.2.2.1 s.2.2.2 = 10)), flushE s.1 s.2.1 s.2.2.1 s.2.2.2)
theorem diskIf_pos {c : Prop} [Decidable c] {S : List (List UInt8)} {W : List (Int × List UInt8)} {L : Int} {O : Bool} (h : c) : diskIf c S W L O = diskD S W L O := by simp [h]
theorem diskIf_neg {c : Prop} [Decidable c] {S : List (List UInt8)} {W : List (Int × List UInt8)} {L : Int} {O : Bool} (h : ¬ c) : diskIf c S W L O = diskD [] [] 0 false := by simp [h]
theorem wr_disk {S : List (List UInt8)} {W : List (Int × List UInt8)} {L : Int} {O : Bool} {i : Int} {b : List UInt8} (h : b.length ≠ 0) : dkD (wrF i b (S, W, L, O)).1 = writeD S W L O i b ∧ (wrF i b (S, W, L, O)).2 = writeE S W L O i b := by
 unfold wrF
 rw [if_neg h]
 refine ⟨?_, rfl⟩
 by_cases hp : writeP (writeE S W L O i b)
 ·simp only [if_pos hp]
  exact (diskIf_pos hp).symm
 ·simp only [if_neg hp]
  exact (diskIf_neg hp).symm
theorem c_wal_write_1 (S : List (List UInt8)) (W : List (Int × List UInt8)) (L : Int) (O : Bool) (at_ : Int) (b : List UInt8) (hC : szP S W ∧ L < 9223372036854775808 ∧ b.length < 1099511627776) : Pure Try.prog n_wal_write_1 [diskD S W L O, .cp [.sl (bytes b)], .cp [.int .i64 at_]] (.tup [dkD (wrF at_ b (S, W, L, O)).1, .int .i64 (wrF at_ b (S, W, L, O)).2]) := by
 refine Pure.go tok (rs := [.cell 4 25, .tmp 5]) [diskD S W L O, .cp [.sl (bytes b)], .cp [.int .i64 at_], .undef, .undef, .undef, .undef, .undef, .undef, .undef, .undef, .undef, .undef, .undef, .undef, .undef] Try.func52 (fun σ => ?_)
 by_cases h0 : b.length = 0
 ·have e : wrF at_ b (S, W, L, O) = ((S, W, L, O), 0) := by unfold wrF; rw [if_pos h0]
  rw [e]
  repeat' (first | (show Ev _ _ _ _; first | refine Ev_seq ?_ | refine W_reg ?_ | refine W_ifY ?_ | refine Ev_ret ?_) | (show EvD _ _ [] _ _ _; refine W_nil ?_) | (show EvD _ _ (_ :: _) _ _ _; refine W_run tok ?_ ?_) | (show RetQ _ _ (RP _ _) _ _; refine R_ret ?_ ?_) | refine Q_thenN ?_ | refine Q_thenR ?_ | fail)
  all_goals (try exact sd)
  all_goals (try refine F_done ?_)
  all_goals rfl
 ·obtain ⟨e1, e2⟩ := wr_disk (S := S) (W := W) (L := L) (O := O) (i := at_) h0
  rw [e1, e2]
  repeat' (first | (show Ev _ _ _ _; first | refine Ev_seq ?_ | refine W_reg ?_ | refine W_ifN ?_ | refine Ev_skip ?_ | refine Ev_ret ?_) | (show EvD _ _ [] _ _ _; refine W_nil ?_) | (show EvD _ _ (_ :: _) _ _ _; first | refine W_run tok ?_ ?_ | refine W_callee ?_) | (show EvC _ _ _ _ _ _ _ _ _; refine W_con ?_ ?_) | (show RetQ _ _ (RP _ _) _ _; refine R_ret ?_ ?_) | refine Q_thenN ?_ | fail)
  all_goals (try exact sd)
  all_goals (try refine F_done ?_)
  all_goals rfl
instance i_wal_write_1 (S : List (List UInt8)) (W : List (Int × List UInt8)) (L : Int) (O : Bool) (at_ : Int) (b : List UInt8) : Con Try.prog 52 [diskD S W L O, .cp [.sl (bytes b)], .cp [.int .i64 at_]] (szP S W ∧ L < 9223372036854775808 ∧ b.length < 1099511627776) (.tup [dkD (wrF at_ b (S, W, L, O)).1, .int .i64 (wrF at_ b (S, W, L, O)).2]) := ⟨c_wal_write_1 S  W  L  O  at_  b ⟩
theorem dkOK.mono {m m' : Nat} {s : Dk} (h : dkOK m s) (hm : m ≤ m') : dkOK m' s := ⟨h.1, by have := h.2.1; omega, h.2.2⟩
theorem wr_ok {m : Nat} {at_ : Int} {b : List UInt8} {s : Dk} (h : dkOK m s) : dkOK (m + b.length / 64) (wrF at_ b s).1 := by
 obtain ⟨h1, h2, h3⟩ := h
 have hf : fitN s.2.2.1 s.2.2.2 (b.length / 64) ≤ b.length / 64 := by
  unfold fitN
  split
  ·omega
  ·split <;> omega
 unfold wrF
 split
 ·exact ⟨h1, by simp only; omega, h3⟩
 ·simp only
  split
  ·refine ⟨h1, ?_, ?_⟩
   ·simp only [addW_len]; omega
   ·simp only; unfold leftL; split <;> omega
  ·exact ⟨by simp [zeroK], by simp [zeroK], by simp [zeroK]⟩
theorem fl_ok {m : Nat} {s : Dk} (h : dkOK m s) : dkOK m (flF s).1 := by
 obtain ⟨h1, h2, h3⟩ := h
 unfold flF
 refine ⟨?_, ?_, ?_⟩
 ·simp only
  split
  ·unfold flushS doneS; rw [doneN_len]; exact h1
  ·split
   ·exact h1
   ·simp
 ·simp only
  split
  ·exact h2
  ·simp
 ·simp only
  split
  ·omega
  ·unfold spendL; split <;> omega
def runF (F : Nat → Dk → Dk × Int) (s : Dk) : Nat → Dk × Int
 | 0 => (s, 0)
 | k + 1 => if (runF F s k).2 ≠ 0 then runF F s k else F k (runF F s k).1
def firstN (n : Nat) (p : Nat → Bool) : Nat := (List.range n).findIdx p
theorem firstN_le (n : Nat) (p : Nat → Bool) : firstN n p ≤ n := by have := List.findIdx_le_length (xs := List.range n) (p := p); simpa [firstN] using this
theorem firstN_lt {n : Nat} {p : Nat → Bool} {i : Nat} (h : i < firstN n p) : p i = false := by
 have := List.not_of_lt_findIdx h
 simpa using this
theorem firstN_eq {n : Nat} {p : Nat → Bool} (h : firstN n p < n) : p (firstN n p) = true := by
 have h' : (List.range n).findIdx p < (List.range n).length := by simpa [firstN] using h
 have := List.findIdx_getElem (w := h')
 simpa [firstN] using this
def badF (F : Nat → Dk → Dk × Int) (s : Dk) (k : Nat) : Bool := !decide ((F k (runF F s k).1).2 = 0)
theorem run_ok {F : Nat → Dk → Dk × Int} {s : Dk} : ∀ {k}, (∀ j, j < k → badF F s j = false) → (runF F s k).2 = 0
 | 0, _ => rfl
 | k + 1, h => by
  have ih := run_ok (k := k) (fun j hj => h j (by omega))
  have hk := h k (by omega)
  unfold runF
  rw [if_neg (by rw [ih]; simp)]
  simpa [badF] using hk
theorem run_bad {F : Nat → Dk → Dk × Int} {s : Dk} {k : Nat} (h : (runF F s (k + 1)).2 ≠ 0) : ∀ n, k + 1 ≤ n → runF F s n = runF F s (k + 1)
 | 0, hn => by omega
 | n + 1, hn => by
  by_cases e : n = k
  ·rw [e]
  ·have ih := run_bad h n (by omega)
   rw [runF, ih, if_pos h]
def StepOK (n : Nat) (xs : List DV) (F : Nat → Dk → Dk × Int) (ok : Nat → Dk → Prop) : Prop :=
 ∀ i, i < n → ∃ g cs, xs.getD i .undef = .fn (.func g) [] cs ∧ FnC Try.prog g ∧ ∀ s, ok i s → Con Try.prog g (dkD s :: cs) True (.tup [dkD (F i s).1, .int .i64 (F i s).2]) ∧ ok (i + 1) (F i s).1
theorem c_all (xs : List DV) (F : Nat → Dk → Dk × Int) (ok : Nat → Dk → Prop) (s : Dk) (h0 : ok 0 s) (hl : xs.length < 1099511627776) (H : StepOK xs.length xs F ok) (hx1 : ∀ x ∈ xs, x.cells.length = 1) (hnx : nameds 0 0 0 xs = true) :
  Pure Try.prog n_wal_all [dkD s, .sl xs] (.tup [dkD (runF F s xs.length).1, .int .i64 (runF F s xs.length).2]) := by
 refine Pure.go tok (rs := [.cell 4 25, .tmp 5]) [dkD s, .sl xs, .undef, .undef, .undef, .undef, .undef, .undef, .undef, .undef, .undef, .undef, .undef, .undef, .undef, .undef, .undef, .undef, .undef, .undef, .undef, .undef, .undef, .undef, .undef, .undef, .undef, .undef, .undef] Try.func30 (fun σ => ?_)
 obtain ⟨m, hm⟩ : ∃ m, m = firstN xs.length (badF F s) := ⟨_, rfl⟩
 have hmle : m ≤ xs.length := by rw [hm]; exact firstN_le _ _
 have hmlt : ∀ i, i < m → badF F s i = false := fun i hi => by rw [hm] at hi; exact firstN_lt hi
 have hmeq : m < xs.length → badF F s m = true := fun h => by rw [hm] at h ⊢; exact firstN_eq h
 clear hm
 have hxn := fun r b m => nameds_mono (Nat.zero_le r) (Nat.zero_le b) (Nat.zero_le m) xs hnx
 have hok : ∀ i, i ≤ m → (runF F s i).2 = 0 ∧ ok i (runF F s i).1 := by
  intro i
  induction i with
  | zero => intro _; exact ⟨rfl, h0⟩
  | succ i ih =>
   intro hi
   obtain ⟨a1, a2⟩ := ih (by omega)
   refine ⟨run_ok fun j hj => hmlt j (by omega), ?_⟩
   obtain ⟨g, cs, _, _, hF⟩ := H i (by omega)
   have := (hF _ a2).2
   rw [runF, if_neg (by rw [a1]; simp)]
   exact this
 repeat' (first | (show Ev _ _ _ _; first | refine Ev_seq ?_ | refine W_reg ?_ | refine Ev_block ?_) | (show EvD _ _ [] _ _ _; refine W_nil ?_) | (show EvD _ _ (_ :: _) _ _ _; refine W_run tok ?_ ?_) | refine Q_thenN ?_ | fail)
 all_goals (try exact sd)
 all_goals (try refine F_done ?_)
 refine Ev_lp (m) (fun i => [(12, i64 i)]) (fun i => ⟨σ.rows, σ.boxes ++ [some ⟨25, [.sl (secs (runF F s i).1.1), .sl (pends (runF F s i).1.2.1), .int .i64 (runF F s i).1.2.2.1, .bool (runF F s i).1.2.2.2]⟩, some ⟨25, [.slt [], .slt [], .int .i64 0, .bool false]⟩], σ.maps⟩) [5, 7, 8, 9, 13, 14, 15, 16, 17, 18, 19, 20, 21, 22, 23, 24, 25, 26, 27] ?_ (by first | rfl | (simp only [List.take_zero, List.append_nil]; done)) (fun i hi => ?_)
 ·exact le1
 obtain ⟨he, ho⟩ := hok i hi
 by_cases hi' : i < m
 ·have hiL : i < xs.length := by omega
  obtain ⟨g, cs, hx, hfc, hF⟩ := H i hiL
  obtain ⟨hc, hn⟩ := hF _ ho
  have hb := hmlt i hi'
  have hr : runF F s (i + 1) = F i (runF F s i).1 := by rw [runF, if_neg (by rw [he]; simp)]
  have hr2 : (F i (runF F s i).1).2 = 0 := by simpa [badF] using hb
  rw [hr2] at hc
  repeat' (first | (show Ev _ _ _ _; first | refine Ev_seq ?_ | refine W_reg ?_ | refine Ev_block ?_ | refine W_ifF ?_ | refine W_ifY ?_ | refine Ev_skip ?_) | (show EvD _ _ [] _ _ _; refine W_nil ?_) | (show EvD _ _ (_ :: _) _ _ _; first | refine W_run tok ?_ ?_ (by simp (maxSteps := 1000000) (disch := omega) only [go_sem, wrap_i64_id, hx]; with_reducible exact rfl) | refine W_callee ?_) | (show EvC _ _ _ _ _ _ _ _ _; refine W_con ?_ ?_) | refine Q_thenN ?_ | refine Q_blkN ?_ | fail)
  all_goals (try exact sd)
  all_goals (try refine F_done ?_)
  refine Q_rndB (A := σ.boxes) (B' := [some ⟨25, [.sl (secs (runF F s (i + 1)).1.1), .sl (pends (runF F s (i + 1)).1.2.1), .int .i64 (runF F s (i + 1)).1.2.2.1, .bool (runF F s (i + 1)).1.2.2.2]⟩, some ⟨25, [.slt [], .slt [], .int .i64 0, .bool false]⟩]) (rg := []) (mg := []) ?_ (by omega) rfl (by first | rfl | simp only [Nat.reduceAdd]) (by simp only [List.append_nil, List.cons_append, List.nil_append, List.append_assoc, hr, hxn, secs_named, pends_named]; exact rfl) (by simp) (by simp [nameds, DV.named, bytes_named, hr, hxn, secs_named, pends_named]) (by simp [nameds, DV.named, bytes_named, hr, hxn, secs_named, pends_named])
  repeat (first | exact LeL.nil | refine LeL.cons2 ?_ (Le.undef _) | refine LeL.cons2 ?_ (Le.refl _) | refine LeL.cons2 ?_ (Le.sl _) | refine LeL.cons2 ?_ (Le.eq (by first | rfl | exact congrArg _ (by omega))) | refine LeL.cons2 ?_ (Le.eq ?_))
 ·obtain rfl : i = m := by omega
  by_cases hiL : i < xs.length
  ·obtain ⟨g, cs, hx, hfc, hF⟩ := H i hiL
   obtain ⟨hc, hn⟩ := hF _ ho
   have hb := hmeq hiL
   have hr : runF F s (i + 1) = F i (runF F s i).1 := by rw [runF, if_neg (by rw [he]; simp)]
   have hr2 : ¬ (F i (runF F s i).1).2 = 0 := by simpa [badF] using hb
   have hr3 := run_bad (by rw [hr]; exact hr2) xs.length (by omega)
   rw [hr3, hr]
   repeat' (first | (show Ev _ _ _ _; first | refine Ev_seq ?_ | refine W_reg ?_ | refine Ev_block ?_ | refine W_ifY ?_ | refine Ev_skip ?_ | refine Ev_ret ?_) | (show EvD _ _ [] _ _ _; refine W_nil ?_) | (show EvD _ _ (_ :: _) _ _ _; first | refine W_run tok ?_ ?_ (by simp (maxSteps := 1000000) (disch := omega) only [go_sem, wrap_i64_id, hx]; with_reducible exact rfl) | refine W_callee ?_) | (show EvC _ _ _ _ _ _ _ _ _; refine W_con ?_ ?_) | (show RetQ _ _ (RP _ _) _ _; refine R_ret ?_ ?_) | refine Q_thenN ?_ | refine Q_thenR ?_ | refine Q_blkR ?_ | refine Q_rndR ?_ | fail)
   all_goals (try exact sd)
   all_goals (try refine F_done ?_)
   all_goals rfl
  ·obtain rfl : i = xs.length := by omega
   rw [he]
   repeat' (first | (show Ev _ _ _ _; first | refine Ev_seq ?_ | refine W_reg ?_ | refine W_ifN ?_ | refine Ev_exit ?_ | refine Ev_ret ?_) | (show EvD _ _ [] _ _ _; refine W_nil ?_) | (show EvD _ _ (_ :: _) _ _ _; refine W_run tok ?_ ?_) | (show RetQ _ _ (RP _ _) _ _; refine R_ret ?_ ?_) | refine Q_thenN ?_ | refine Q_thenE ?_ | refine Q_blkE ?_ | refine Q_rndE ?_ | fail)
   all_goals (try exact sd)
   all_goals (try refine F_done ?_)
   all_goals rfl
end Go.Val.Ytlfnmgmbmgacgaa
