/- Chapter 05: what is laid down is read. -/
import Derived.Test.YtlfnmgmbmgacgaaE05e
namespace Go.Val.Ytlfnmgmbmgacgaa
open Go Go.Val Go.Proofs Go.Proofs.Ytlfnmgmbmgacgaa
attribute [local irreducible] Ev EvD EvC thenQ blockQ RoundG RetQ
set_option maxRecDepth 100000
set_option maxHeartbeats 4000000
set_option linter.unusedSimpArgs false
set_option linter.unusedVariables false
theorem cut3 {α : Type} (M A B R : List α) (h1 : M.length = 4) (h2 : A.length = 6) (h3 : B.length = 2) :
  (M ++ (A ++ (B ++ R))).take 4 = M ∧ ((M ++ (A ++ (B ++ R))).take 10).drop 4 = A ∧ ((M ++ (A ++ (B ++ R))).take 12).drop 10 = B := by
 refine ⟨?_, ?_, ?_⟩
 ·rw [List.take_append_of_le_length (by omega), List.take_of_length_le (by omega)]
 ·rw [List.drop_take, List.drop_append_of_le_length (by omega), List.drop_of_length_le (by omega), List.nil_append, List.take_append_of_le_length (by omega), List.take_of_length_le (by omega)]
 ·rw [List.drop_take, ← List.append_assoc, List.drop_append_of_le_length (by simp; omega), List.drop_of_length_le (by simp; omega), List.nil_append, List.take_append_of_le_length (by omega), List.take_of_length_le (by omega)]
theorem head_lay {s : Int} {d : List UInt8} (h : mayF s d) {b R : List UInt8} (hb : b = [98, 117, 114, 115] ++ (beN 6 s.toNat ++ (beN 2 d.length ++ R))) (hR : 4 ≤ R.length) :
  hdE b = 0 ∧ hdS b = s.toNat ∧ hdN b = d.length := by
 obtain ⟨h1, h2, h3⟩ := h
 obtain ⟨c1, c2, c3⟩ := cut3 [98, 117, 114, 115] (beN 6 s.toNat) (beN 2 d.length) R rfl (beN_len _ _) (beN_len _ _)
 rw [← hb] at c1 c2 c3
 have n1 : numN (beN 6 s.toNat) = s.toNat := by rw [numN_beN, Nat.mod_eq_of_lt (by omega)]
 have n2 : numN (beN 2 d.length) = d.length := by rw [numN_beN, Nat.mod_eq_of_lt (by omega)]
 have hl : 16 ≤ b.length := by rw [hb]; simp [beN_len]; omega
 have he : hdE b = 0 := by
  unfold hdE
  rw [c1, c2, c3, n1, n2, if_neg (by omega), if_neg]
  rintro (h | h | h)
  ·exact h rfl
  ·omega
  ·omega
 unfold hdS hdN
 rw [if_pos he, if_pos he, c2, c3, n1, n2]
 exact ⟨he, rfl, rfl⟩
theorem rawF_eq (s : Nat) (d : List UInt8) : rawF s d = [98, 117, 114, 115] ++ (beN 6 s ++ (beN 2 d.length ++ (beN 4 (crcSum d).toNat ++ d))) := by simp [rawF]
theorem layF_eq (s : Int) (d c : List UInt8) : layF s d ++ c = [98, 117, 114, 115] ++ (beN 6 s.toNat ++ (beN 2 d.length ++ (beN 4 (crcSum d).toNat ++ (d ++ (sumD (crcSum (rawF s.toNat d)) ++ (List.replicate (64 * ((d.length + 83) / 64) - (20 + d.length)) 0 ++ c)))))) := by
 rw [layF, sealD, rawF_eq]
 simp only [List.append_assoc]
theorem rawF_drop (s : Nat) (d : List UInt8) : (rawF s d).drop 16 = d := by
 have : rawF s d = ([98, 117, 114, 115] ++ beN 6 s ++ beN 2 d.length ++ beN 4 (crcSum d).toNat) ++ d := rfl
 rw [this, List.drop_append_of_le_length (by simp [beN_len]), List.drop_of_length_le (by simp [beN_len])]; rfl
theorem read_lay {s : Int} {d : List UInt8} (h : mayF s d) (c : List UInt8) : rdE (layF s d ++ c) = 0 ∧ rdS (layF s d ++ c) = s ∧ rdD (layF s d ++ c) = d ∧ rdN (layF s d ++ c) = (layF s d).length := by
 obtain ⟨e1, e2, e3⟩ := head_lay h (layF_eq s d c) (by simp [beN_len])
 have hl := layF_len s d
 have hrl := rawF_len s.toNat d
 have hsl : (sealD (rawF s.toNat d)).length = 20 + d.length := by rw [sealD_len]; omega
 have hz : rdSz (layF s d ++ c) = 64 * ((d.length + 83) / 64) := by unfold rdSz; rw [e3]
 have hle : rdSz (layF s d ++ c) ≤ (layF s d ++ c).length := by rw [hz, List.length_append]; omega
 have ht : (layF s d ++ c).take (20 + d.length) = sealD (rawF s.toNat d) := by
  rw [List.take_append_of_le_length (by omega), layF, List.take_append_of_le_length (by omega), List.take_of_length_le (by omega)]
 have hd : rdData (layF s d ++ c) = d := by
  unfold rdData
  rw [e3]
  have : (layF s d ++ c).take (16 + d.length) = rawF s.toNat d := by
   have h2 : ((layF s d ++ c).take (20 + d.length)).take (16 + d.length) = rawF s.toNat d := by rw [ht, sealD, List.take_append_of_le_length (by omega), List.take_of_length_le (by omega)]
   rwa [List.take_take, Nat.min_eq_left (by omega)] at h2
  rw [this, rawF_drop]
 have hS : sealD (rawF (hdS (layF s d ++ c)) (rdData (layF s d ++ c))) = (layF s d ++ c).take (20 + hdN (layF s d ++ c)) := by rw [e2, e3, hd, ht]
 have hk := (seal_iff e1 (by rw [e3, List.length_append]; omega)).1 hS
 have ha := (lay_iff e1 hle hS).1 (by
  have hs : ((s.toNat : Nat) : Int) = s := by have := h.1; omega
  rw [e2, hd, hs, hz, List.take_append_of_le_length (by omega), List.take_of_length_le (by omega)])
 have hE : rdE (layF s d ++ c) = 0 := by
  unfold rdE
  rw [if_neg (by omega), if_neg (by omega), if_neg (by rintro (h | h); exact h hk.1; exact h hk.2), if_neg (by rw [ha]; decide)]
 refine ⟨hE, ?_, ?_, ?_⟩
 ·unfold rdS; rw [if_pos hE, e2]; have := h.1; omega
 ·unfold rdD; rw [if_pos hE, hd]
 ·unfold rdN; rw [if_pos hE, hz, hl]
end Go.Val.Ytlfnmgmbmgacgaa
