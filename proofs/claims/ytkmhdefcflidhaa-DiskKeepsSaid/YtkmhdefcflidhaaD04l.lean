/- Chapter 04: the law of budgets, walked. -/
import Derived.Test.YtkmhdefcflidhaaD04k
namespace Go.Val.Ytkmhdefcflidhaa
open Go Go.Val Go.Proofs Go.Proofs.Ytkmhdefcflidhaa
attribute [local irreducible] Ev EvD EvC thenQ blockQ RoundG RetQ
set_option maxRecDepth 100000
set_option maxHeartbeats 4000000
set_option linter.unusedSimpArgs false
set_option linter.unusedVariables false

abbrev goodS (S : List (List UInt8)) (W : List (Int × List UInt8)) (m : Nat) : Prop := (S.length = m ∧ ∀ b ∈ S, b.length = 64) ∧ ∀ q ∈ W, 0 ≤ q.1 ∧ q.1 < (m : Int) ∧ q.2.length = 64
theorem good_may {S : List (List UInt8)} {W : List (Int × List UInt8)} {m : Nat} {L : Int} (h : goodS S W m) (h1 : 1 ≤ m) (h2 : m ≤ 4096) (hL : -1 ≤ L) : mayP S W L :=
  ⟨⟨by rw [h.1.1]; exact h1, by rw [h.1.1]; exact h2⟩, hL, h.1.2, fun p hp => by rw [h.1.1]; exact h.2 p hp⟩
theorem doneN_good {S : List (List UInt8)} {W : List (Int × List UInt8)} {m : Nat} (p : Nat → Bool) (h : goodS S W m) : ∀ k, k ≤ W.length → ∀ b ∈ doneN S W p k, b.length = 64
  | 0, _ => h.1.2
  | k + 1, hk => by
    unfold doneN
    split
    · intro b hb
      rcases List.mem_or_eq_of_mem_set hb with h1 | h1
      · exact doneN_good p h k (by omega) b h1
      · rw [h1]; exact (h.2 _ (getD_memW (by omega))).2.2
    · exact doneN_good p h k (by omega)
theorem flush_good {S : List (List UInt8)} {W : List (Int × List UInt8)} {m : Nat} (h : goodS S W m) : goodS (flushS S W) [] m :=
  ⟨⟨by unfold flushS doneS; rw [doneN_len]; exact h.1.1, doneN_good _ h _ (Nat.le_refl _)⟩, by simp⟩
theorem new_good (m : Nat) : goodS (newS m) [] m := ⟨⟨newS_len m, fun b hb => by rw [List.eq_of_mem_replicate hb]; exact zeros_len 64⟩, by simp⟩
theorem chunk_len {b : List UInt8} {k : Nat} (h : 64 * k + 64 ≤ b.length) : (chunk b k).length = 64 := by unfold chunk; rw [List.length_take, List.length_drop]; omega
theorem add_good {S : List (List UInt8)} {W : List (Int × List UInt8)} {m : Nat} (h : goodS S W m) {i : Int} {b : List UInt8} {n : Nat} (h0 : 0 ≤ i) (h1 : i + n ≤ m) (hb : 64 * n ≤ b.length) : goodS S (addW W i b n) m := by
  refine ⟨h.1, fun q hq => ?_⟩
  unfold addW at hq
  rcases List.mem_append.1 hq with hq | hq
  · exact h.2 q hq
  · obtain ⟨k, hk, rfl⟩ := List.mem_map.1 hq
    have hk := List.mem_range.1 hk
    exact ⟨by simp only; omega, by simp only; omega, chunk_len (by omega)⟩
/-- What a write and a flush answer where there is a budget, and where there is none. -/
theorem con_wr {S : List (List UInt8)} {W : List (Int × List UInt8)} {m : Nat} {L : Int} {i : Int} {b : List UInt8} (n : Nat) (h : goodS S W m) (hz : szP S W) (h1 : 1 ≤ m) (h2 : m ≤ 4096) (hb : b.length = 64 * n) (hn : 1 ≤ n) (h0 : 0 ≤ i) (hi : i + n ≤ m) (hL : -1 ≤ L) (hL2 : L < 0 ∨ n ≤ L) (hL3 : L < 9223372036854775808) :
    Con Try.prog 21 [diskD S W L false, .int .i64 i, .sl (bytes b)] True (.tup [diskD S (addW W i b n) (leftL L n) false, .int .i64 0]) := by
  have hm : mayP S W L := good_may h h1 h2 hL
  have hq : b.length / 64 = n := by omega
  have hf : fitN L false n = n := by unfold fitN; rw [if_neg (by simp), if_pos hL2]
  have hE : writeE S W L false i b = 0 := by
    unfold writeE
    rw [hq, hf, if_neg (by rintro (h | h | h); exact h hm; omega; omega), if_neg (by rw [Classical.not_not, h.1.1]; omega), if_neg (by omega)]
  refine con_eq (i_disk_Write S W L false i b) ⟨hz, hL3, by omega⟩ ?_
  unfold writeD
  rw [hE, hq, hf]
  exact tup_ext (disk_ext (if_pos (.inl rfl)) (if_pos (.inl rfl)) (if_pos (.inl rfl)) ((if_pos (.inl rfl)).trans rfl)) rfl
theorem con_wr0 {S : List (List UInt8)} {W : List (Int × List UInt8)} {m : Nat} {O : Bool} {i : Int} {b : List UInt8} (h : goodS S W m) (hz : szP S W) (h1 : 1 ≤ m) (h2 : m ≤ 4096) (hb : b.length = 64) (h0 : 0 ≤ i) (hi : i + 1 ≤ m) :
    Con Try.prog 21 [diskD S W 0 O, .int .i64 i, .sl (bytes b)] True (.tup [diskD S W 0 true, .int .i64 10]) := by
  have hm : mayP S W 0 := good_may h h1 h2 (by omega)
  have hf : fitN 0 O 1 = 0 := by unfold fitN; cases O <;> simp
  have hq : b.length / 64 = 1 := by omega
  have hE : writeE S W 0 O i b = 10 := by
    unfold writeE
    rw [hq, hf, if_neg (by rintro (h | h | h); exact h hm; omega; omega), if_neg (by rw [Classical.not_not, h.1.1]; omega), if_pos (by omega)]
  refine con_eq (i_disk_Write S W 0 O i b) ⟨hz, by omega, by omega⟩ ?_
  unfold writeD
  rw [hE, hq, hf]
  exact tup_ext (disk_ext (if_pos (.inr rfl)) ((if_pos (.inr rfl)).trans (addW_zero _ _ _)) ((if_pos (.inr rfl)).trans rfl) ((if_pos (.inr rfl)).trans rfl)) rfl
theorem con_fl {S : List (List UInt8)} {W : List (Int × List UInt8)} {m : Nat} {L : Int} (h : goodS S W m) (hz : szP S W) (h1 : 1 ≤ m) (h2 : m ≤ 4096) (hL : -1 ≤ L) (hL2 : L ≠ 0) (hL3 : L < 9223372036854775808) :
    Con Try.prog 23 [diskD S W L false] True (.tup [diskD (flushS S W) [] (leftL L 1) false, .int .i64 0]) := by
  have hm : mayP S W L := good_may h h1 h2 hL
  have hs : spendB L false = true := by simp [spendB, hL2]
  have hE : flushE S W L false = 0 := by unfold flushE; rw [if_pos hm, if_pos hs]
  refine con_eq (i_disk_Flush S W L false) ⟨hz, hL3⟩ ?_
  unfold flushD
  rw [hE]
  refine tup_ext (disk_ext (if_pos rfl) (if_neg (by decide)) ((if_neg (by decide)).trans ?_) rfl) rfl
  unfold spendL leftL
  by_cases h3 : L < 0
  · rw [if_neg (by omega), if_pos h3]
  · rw [if_pos ⟨hs, by omega⟩, if_neg h3]; rfl
theorem con_fl0 {S : List (List UInt8)} {W : List (Int × List UInt8)} {m : Nat} {O : Bool} (h : goodS S W m) (hz : szP S W) (h1 : 1 ≤ m) (h2 : m ≤ 4096) :
    Con Try.prog 23 [diskD S W 0 O] True (.tup [diskD S W 0 true, .int .i64 10]) := by
  have hm : mayP S W 0 := good_may h h1 h2 (by omega)
  have hs : ¬ spendB 0 O = true := by simp [spendB]
  have hE : flushE S W 0 O = 10 := by unfold flushE; rw [if_pos hm, if_neg hs]
  refine con_eq (i_disk_Flush S W 0 O) ⟨hz, by omega⟩ ?_
  unfold flushD
  rw [hE]
  refine tup_ext (disk_ext ((if_neg (by decide)).trans (if_pos rfl)) (if_pos rfl) ((if_neg (by decide)).trans ?_) rfl) rfl
  unfold spendL; rw [if_neg (by omega)]
end Go.Val.Ytkmhdefcflidhaa
