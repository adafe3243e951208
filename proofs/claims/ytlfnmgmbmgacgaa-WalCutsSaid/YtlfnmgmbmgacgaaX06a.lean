/- Chapter 06: the chapter's examples, and appending where nothing fails, walked. -/
import Derived.Test.YtlfnmgmbmgacgaaW06f
namespace Go.Val.Ytlfnmgmbmgacgaa
open Go Go.Val Go.Proofs Go.Proofs.Ytlfnmgmbmgacgaa
attribute [local irreducible] Ev EvD EvC thenQ blockQ RoundG RetQ
set_option maxRecDepth 100000
set_option maxHeartbeats 4000000
set_option linter.unusedSimpArgs false
set_option linter.unusedVariables false
abbrev goodS (S : List (List UInt8)) (W : List (Int × List UInt8)) (m : Nat) : Prop := (S.length = m ∧ ∀ b ∈ S, b.length = 64) ∧ ∀ q ∈ W, 0 ≤ q.1 ∧ q.1 < (m : Int) ∧ q.2.length = 64
theorem good_may {S : List (List UInt8)} {W : List (Int × List UInt8)} {m : Nat} {L : Int} (h : goodS S W m) (h1 : 1 ≤ m) (h2 : m ≤ 4096) (hL : -1 ≤ L) : mayP S W L :=
 ⟨⟨by rw [h.1.1]; exact h1, by rw [h.1.1]; exact h2⟩, hL, h.1.2, fun p hp => by rw [h.1.1]; exact h.2 p hp⟩
theorem doneN_good {S : List (List UInt8)} {W : List (Int × List UInt8)} {m : Nat} (p : Nat → Bool) (h : goodS S W m) : ∀ k, k ≤ W.length → ∀ b ∈ doneN S W p k, b.length = 64
 | 0, _ => h.1.2
 | k + 1, hk => by
  unfold doneN
  split
  ·intro b hb
   rcases List.mem_or_eq_of_mem_set hb with h1 | h1
   ·exact doneN_good p h k (by omega) b h1
   ·rw [h1]; exact (h.2 _ (getD_memW (by omega))).2.2
  ·exact doneN_good p h k (by omega)
theorem flush_good {S : List (List UInt8)} {W : List (Int × List UInt8)} {m : Nat} (h : goodS S W m) : goodS (flushS S W) [] m :=
 ⟨⟨by unfold flushS doneS; rw [doneN_len]; exact h.1.1, doneN_good _ h _ (Nat.le_refl _)⟩, by simp⟩
theorem new_good (m : Nat) : goodS (newS m) [] m := ⟨⟨newS_len m, fun b hb => by rw [List.eq_of_mem_replicate hb]; exact zeros_len 64⟩, by simp⟩
theorem chunk_len {b : List UInt8} {k : Nat} (h : 64 * k + 64 ≤ b.length) : (chunk b k).length = 64 := by unfold chunk; rw [List.length_take, List.length_drop]; omega
theorem add_good {S : List (List UInt8)} {W : List (Int × List UInt8)} {m : Nat} (h : goodS S W m) {i : Int} {b : List UInt8} {n : Nat} (h0 : 0 ≤ i) (h1 : i + n ≤ m) (hb : 64 * n ≤ b.length) : goodS S (addW W i b n) m := by
 refine ⟨h.1, fun q hq => ?_⟩
 unfold addW at hq
 rcases List.mem_append.1 hq with hq | hq
 ·exact h.2 q hq
 ·obtain ⟨k, hk, rfl⟩ := List.mem_map.1 hq
  have hk := List.mem_range.1 hk
  exact ⟨by simp only; omega, by simp only; omega, chunk_len (by omega)⟩
theorem wr_good {S : List (List UInt8)} {W : List (Int × List UInt8)} {m : Nat} {i : Int} {b : List UInt8} (k : Nat) (h : goodS S W m) (h1 : 1 ≤ m) (h2 : m ≤ 4096) (hb : b.length = 64 * k) (h0 : 0 ≤ i) (hi : i + k ≤ m) :
  wrF i b (S, W, -1, false) = ((S, addW W i b k, -1, false), 0) := by
 have hm : mayP S W (-1) := good_may h h1 h2 (by omega)
 have hq : b.length / 64 = k := by omega
 have hf : fitN (-1) false k = k := by unfold fitN; simp
 unfold wrF
 by_cases hk : k = 0
 ·subst hk
  rw [if_pos (by omega), addW_zero]
 ·rw [if_neg (by omega)]
  have hE : writeE S W (-1) false i b = 0 := by
   unfold writeE
   rw [hq, hf, if_neg (by rintro (h | h | h); exact h hm; omega; omega), if_neg (by rw [Classical.not_not, h.1.1]; omega), if_neg (by omega)]
  simp only [hE, hq, hf]
  rfl
theorem fl_good {S : List (List UInt8)} {W : List (Int × List UInt8)} {m : Nat} (h : goodS S W m) (h1 : 1 ≤ m) (h2 : m ≤ 4096) : flF (S, W, -1, false) = ((flushS S W, [], -1, false), 0) := by
 have hm : mayP S W (-1) := good_may h h1 h2 (by omega)
 have hE : flushE S W (-1) false = 0 := by unfold flushE; rw [if_pos hm, if_pos (by simp [spendB])]
 unfold flF
 simp only [hE]
 rfl
def appS (S : List (List UInt8)) (W : List (Int × List UInt8)) (at_ : Int) (q : Nat) (B : List UInt8) : List (List UInt8) :=
 flushS (flushS S (addW (addW W (at_ + 1) (B.drop 64) (q - 1)) (at_ + q) nought64 1)) (addW [] at_ (B.take 64) 1)
theorem app_good {S : List (List UInt8)} {W : List (Int × List UInt8)} {m : Nat} (h : goodS S W m) (h1 : 1 ≤ m) (h2 : m ≤ 4096) {at_ : Int} {q : Nat} {B : List UInt8} (hB : B.length = 64 * q) (hq : 1 ≤ q) (h0 : 0 ≤ at_) (hi : at_ + q + 1 ≤ m) :
  runF (appF at_ q B) (S, W, -1, false) 5 = ((appS S W at_ q B, [], -1, false), 0) ∧ goodS (appS S W at_ q B) [] m := by
 have hd : (B.drop 64).length = 64 * (q - 1) := by rw [List.length_drop]; omega
 have ht : (B.take 64).length = 64 * 1 := by rw [List.length_take]; omega
 have hz : nought64.length = 64 * 1 := by simp [nought64]
 have g1 := add_good h (i := at_ + 1) (b := B.drop 64) (n := q - 1) (by omega) (by omega) (by omega)
 have g2 := add_good g1 (i := at_ + q) (b := nought64) (n := 1) (by omega) (by omega) (by omega)
 have g3 := flush_good g2
 have g4 := add_good g3 (i := at_) (b := B.take 64) (n := 1) (by omega) (by omega) (by omega)
 have g5 := flush_good g4
 have e1 := wr_good (q - 1) h h1 h2 (i := at_ + 1) hd (by omega) (by omega)
 have e2 := wr_good 1 g1 h1 h2 (i := at_ + q) hz (by omega) (by omega)
 have e3 := fl_good g2 h1 h2
 have e4 := wr_good 1 g3 h1 h2 (i := at_) ht (by omega) (by omega)
 have e5 := fl_good g4 h1 h2
 refine ⟨?_, g5⟩
 have r1 : runF (appF at_ q B) (S, W, -1, false) 1 = ((S, addW W (at_ + 1) (B.drop 64) (q - 1), -1, false), 0) := by
  show (if (0 : Int) ≠ 0 then _ else _) = _
  rw [if_neg (by simp)]; exact e1
 have r2 : runF (appF at_ q B) (S, W, -1, false) 2 = ((S, addW (addW W (at_ + 1) (B.drop 64) (q - 1)) (at_ + q) nought64 1, -1, false), 0) := by
  rw [runF, r1, if_neg (by simp)]; exact e2
 have r3 : runF (appF at_ q B) (S, W, -1, false) 3 = ((flushS S (addW (addW W (at_ + 1) (B.drop 64) (q - 1)) (at_ + q) nought64 1), [], -1, false), 0) := by
  rw [runF, r2, if_neg (by simp)]; exact e3
 have r4 : runF (appF at_ q B) (S, W, -1, false) 4 = ((flushS S (addW (addW W (at_ + 1) (B.drop 64) (q - 1)) (at_ + q) nought64 1), addW [] at_ (B.take 64) 1, -1, false), 0) := by
  rw [runF, r3, if_neg (by simp)]; exact e4
 rw [runF, r4, if_neg (by simp)]; exact e5
theorem c_bursarlaw06_some (n : Int) (hC : 1 ≤ n ∧ n ≤ 4096) : Pure Try.prog n_bursarlaw06_some [.int .i64 n] (diskD (newS n.toNat) [] (-1) false) := by
 refine Pure.go tok (rs := [.cell 2 25]) [.int .i64 n, .undef, .undef, .undef, .undef, .undef, .undef, .undef, .undef, .undef, .undef] Try.func18 (fun σ => ?_)
 have iN : Con Try.prog 38 [.int .i64 n] True (.tup [diskD (newS n.toNat) [] (-1) false, .int .i64 0]) := con_eq (i_disk_New n) trivial (by rw [diskIf_pos hC, if_pos hC])
 repeat' (first | (show Ev _ _ _ _; first | refine Ev_seq ?_ | refine W_reg ?_ | refine Ev_ret ?_) | (show EvD _ _ [] _ _ _; refine W_nil ?_) | (show EvD _ _ (_ :: _) _ _ _; first | refine W_run tok ?_ ?_ | refine W_callee ?_) | (show EvC _ _ _ _ _ _ _ _ _; refine W_con ?_ ?_) | (show RetQ _ _ (RP _ _) _ _; refine R_ret ?_ ?_) | refine Q_thenN ?_ | fail)
 all_goals (try exact sd)
 all_goals (try refine F_done ?_)
 all_goals rfl
instance i_bursarlaw06_some (n : Int) : Con Try.prog 18 [.int .i64 n] (1 ≤ n ∧ n ≤ 4096) (diskD (newS n.toNat) [] (-1) false) := ⟨c_bursarlaw06_some n ⟩
end Go.Val.Ytlfnmgmbmgacgaa
