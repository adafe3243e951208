/- Chapter 09: the statement of a tree's edge: its list, and what is written down of depths. -/
import Derived.Test.YtgjmpefhjdgkoaaN09k
namespace Go.Val.Ytgjmpefhjdgkoaa
open Go Go.Val Go.Proofs Go.Proofs.Ytgjmpefhjdgkoaa
attribute [local irreducible] Ev EvD EvC thenQ blockQ RoundG RetQ
set_option maxRecDepth 100000
set_option maxHeartbeats 4000000
set_option linter.unusedSimpArgs false
set_option linter.unusedVariables false
def ek (i : Nat) : List UInt8 := [UInt8.ofNat (1 + i / 250), UInt8.ofNat (1 + i % 250)]
def edgeP (n : Nat) : List PairB := (List.range n).map fun i => (ek i, [])
theorem edgeP_len (n : Nat) : (edgeP n).length = n := by simp [edgeP]
theorem edgeP_get {n i : Nat} (h : i < n) : (edgeP n).getD i ([], []) = (ek i, []) := by
 simp [edgeP, List.getD_eq_getElem?_getD, List.getElem?_map, List.getElem?_range h]
theorem edgeP_snoc (i : Nat) : pairsD (edgeP i) ++ [.agg [.str [UInt8.ofNat (1 + i / 250), UInt8.ofNat (1 + i % 250)], .str []]] = pairsD (edgeP (i + 1)) := by simp [edgeP, pairsD, List.range_succ, pairD, ek]
theorem edge_ok : (List.range 899).all (fun i => decide (i = 0) || Op.bytesLess (ek (i - 1)) (ek i)) = true := by decide +kernel
theorem edge_may {k : Nat} (h : k ≤ 899) : mayT (edgeP k) = true := by
 unfold mayT
 rw [allN_iff]
 intro i hi
 rw [edgeP_len] at hi
 have he := List.all_eq_true.1 edge_ok i (by rw [List.mem_range]; omega)
 unfold okP
 rw [edgeP_get hi]
 rcases Nat.eq_zero_or_pos i with rfl | h0
 ·rfl
 ·rw [edgeP_get (by omega : i - 1 < k)]
  simp only at he ⊢
  rw [he]; rfl
theorem kidsD_set (D : List Int) (p : Nat) (v : Int) : (kidsD D).set p (.int .i64 v) = kidsD (D.set p v) := by simp [kidsD, List.map_set]
theorem zrepI (n : Nat) : List.replicate n (DV.int .i64 0) = kidsD (List.replicate n 0) := by simp [kidsD]
def Dq (c T q : Nat) : List Int := (List.range T).map fun p => if th c q ≤ p then (dep c p : Int) else 0
def Dm (c T q j : Nat) : List Int := (List.range T).map fun p => if th c (q + 1) ≤ p ∨ (th c q ≤ p ∧ p < th c q + j) then (dep c p : Int) else 0
theorem Dq_len (c T q : Nat) : (Dq c T q).length = T := by simp [Dq]
theorem Dm_len (c T q j : Nat) : (Dm c T q j).length = T := by simp [Dm]
theorem Dm_zero (c T q : Nat) : Dm c T q 0 = Dq c T (q + 1) := by
 unfold Dm Dq
 apply List.map_congr_left
 intro p _
 by_cases h : th c (q + 1) ≤ p
 ·rw [if_pos (.inl h), if_pos h]
 ·rw [if_neg (by omega), if_neg h]
theorem Dm_all (c T q : Nat) (h : th c q ≤ th c (q + 1)) : Dm c T q (th c (q + 1) - th c q) = Dq c T q := by
 unfold Dm Dq
 apply List.map_congr_left
 intro p _
 by_cases h2 : th c q ≤ p
 ·rw [if_pos (by omega), if_pos h2]
 ·rw [if_neg (by omega), if_neg h2]
theorem Dm_succ (c T q j : Nat) (h : th c q + j < th c (q + 1)) (hT : th c q + j < T) : (Dm c T q j).set (th c q + j) (dep c (th c q + j) : Int) = Dm c T q (j + 1) := by
 apply List.ext_getElem?
 intro p
 rw [List.getElem?_set]
 unfold Dm
 rw [List.getElem?_map, List.getElem?_map, List.length_map, List.length_range]
 by_cases hp : p < T
 ·rw [List.getElem?_range hp]
  simp only [Option.map_some]
  by_cases e : th c q + j = p
  ·rw [if_pos e, if_pos (by omega), if_pos (by omega), e]
  ·rw [if_neg e]
   by_cases h2 : th c (q + 1) ≤ p ∨ (th c q ≤ p ∧ p < th c q + j)
   ·rw [if_pos h2, if_pos (by omega)]
   ·rw [if_neg h2, if_neg (by omega)]
 ·rw [if_neg (by omega), List.getElem?_eq_none (by rw [List.length_range]; omega)]
  rfl
theorem Dm_getQ {c T q j p : Nat} (hp : p < T) (h : th c (q + 1) ≤ p ∨ (th c q ≤ p ∧ p < th c q + j)) : (kidsD (Dm c T q j)).getD p .undef = .int .i64 (dep c p : Int) := by
 simp [Dm, kidsD, List.getD_eq_getElem?_getD, List.getElem?_map, List.getElem?_range hp, h]
theorem Dm_getN {c T q j p : Nat} (hp : p < T) (h : ¬ (th c (q + 1) ≤ p ∨ (th c q ≤ p ∧ p < th c q + j))) : (kidsD (Dm c T q j)).getD p .undef = .int .i64 0 := by
 simp only [Dm, kidsD, List.getD_eq_getElem?_getD, List.getElem?_map, List.getElem?_range hp, Option.map_some, Option.getD_some, if_neg h]
theorem D_root {c : Nat} (h1 : 1 ≤ c) (h6 : c ≤ 600) : (List.replicate (sumL c (rdC c)) (0 : Int)).set (sumL c (rdC c) - 1) 1 = Dq c (sumL c (rdC c)) (sumL c (rdC c)) := by
 obtain ⟨r1, r2, r3⟩ := dep_root h1 h6
 apply List.ext_getElem?
 intro p
 rw [List.getElem?_set, List.getElem?_replicate, List.length_replicate]
 unfold Dq
 rw [List.getElem?_map, r2]
 by_cases hp : p < sumL c (rdC c)
 ·rw [List.getElem?_range hp, if_pos hp]
  simp only [Option.map_some]
  by_cases e : sumL c (rdC c) - 1 = p
  ·rw [if_pos e, if_pos (by omega), if_pos (by omega), ← e, r1]; rfl
  ·rw [if_neg e, if_neg (by omega)]
 ·rw [if_neg (by omega), if_neg hp, List.getElem?_eq_none (by rw [List.length_range]; omega)]
  rfl
end Go.Val.Ytgjmpefhjdgkoaa
