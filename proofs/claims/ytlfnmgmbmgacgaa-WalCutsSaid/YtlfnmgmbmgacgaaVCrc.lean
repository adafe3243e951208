/- The check sum as plain mathematics. -/
import Derived.Test.YtlfnmgmbmgacgaaVM3
section
namespace Go.Val
set_option linter.unusedSimpArgs false
set_option linter.unusedVariables false

def crcStep (w : BitVec 32) : BitVec 32 := w <<< 1 ^^^ 79764919#32 * (w >>> 31)
def crcSteps : Nat → BitVec 32 → BitVec 32
 | 0, w => w
 | n + 1, w => crcStep (crcSteps n w)
def crcWord (i : Nat) : BitVec 32 := crcSteps 8 (BitVec.ofNat 32 i <<< 24)
def crcByte (w : BitVec 32) (c : UInt8) : BitVec 32 := w <<< 8 ^^^ crcWord (low8 (w >>> 24) ^^^ c).toNat
def crcFold (l : List UInt8) : BitVec 32 := l.foldl crcByte (BitVec.allOnes 32)
def crcSum (l : List UInt8) : BitVec 32 := ~~~ crcFold l
def sumD (w : BitVec 32) : List UInt8 := [low8 (w >>> 24), low8 (w >>> 16), low8 (w >>> 8), low8 w]
def sealD (b : List UInt8) : List UInt8 := b ++ sumD (crcSum b)
def openD (s : List UInt8) : List UInt8 × Nat :=
 if s.length < 4 then ([], 3) else if s.drop (s.length - 4) = sumD (crcSum (s.take (s.length - 4))) then (s.take (s.length - 4), 0) else ([], 6)
theorem open_seal (b : List UInt8) : openD (sealD b) = (b, 0) := by
 have hl : (sealD b).length = b.length + 4 := by simp [sealD, sumD]
 have ht : (sealD b).take ((sealD b).length - 4) = b := by rw [hl]; simp [sealD]
 have hd : (sealD b).drop ((sealD b).length - 4) = sumD (crcSum b) := by rw [hl]; simp [sealD]
 unfold openD
 rw [if_neg (by omega), ht, hd, if_pos rfl]

/-! ### linear -/
theorem shr31 (w : BitVec 32) : w >>> 31 = if w.msb then 1#32 else 0#32 := by
 apply BitVec.eq_of_toNat_eq
 rw [BitVec.toNat_ushiftRight, Nat.shiftRight_eq_div_pow]
 have h := BitVec.msb_eq_decide w
 have hlt := w.isLt
 cases hm : w.msb with
 | true =>
  rw [hm] at h
  have := of_decide_eq_true h.symm
  simp only [if_true]
  show w.toNat / 2 ^ 31 = 1
  omega
 | false =>
  rw [hm] at h
  have := of_decide_eq_false h.symm
  simp only [Bool.false_eq_true, if_false]
  show w.toNat / 2 ^ 31 = 0
  omega
theorem crcStep_msb (w : BitVec 32) : crcStep w = w <<< 1 ^^^ (if w.msb then 79764919#32 else 0#32) := by
 unfold crcStep
 rw [shr31]
 split <;> rfl
theorem crcStep_xor (a b : BitVec 32) : crcStep (a ^^^ b) = crcStep a ^^^ crcStep b := by
 simp only [crcStep_msb, BitVec.shiftLeft_xor_distrib, BitVec.msb_xor]
 cases a.msb <;> cases b.msb <;> simp only [Bool.xor_true, Bool.xor_false, Bool.not_true, Bool.not_false, if_true, if_false, Bool.false_eq_true, BitVec.xor_zero]
 ·rw [BitVec.xor_assoc]
 ·rw [BitVec.xor_assoc, BitVec.xor_assoc, BitVec.xor_comm (b <<< 1)]
 ·rw [show a <<< 1 ^^^ 79764919#32 ^^^ (b <<< 1 ^^^ 79764919#32) = (a <<< 1 ^^^ b <<< 1) ^^^ (79764919#32 ^^^ 79764919#32) by ac_rfl, BitVec.xor_self, BitVec.xor_zero]
theorem crcSteps_xor (n : Nat) (a b : BitVec 32) : crcSteps n (a ^^^ b) = crcSteps n a ^^^ crcSteps n b := by
 induction n with
 | zero => rfl
 | succ n ih => rw [crcSteps, crcSteps, crcSteps, ih, crcStep_xor]
theorem ofNat_xor (a b : UInt8) : BitVec.ofNat 32 (a ^^^ b).toNat = BitVec.ofNat 32 a.toNat ^^^ BitVec.ofNat 32 b.toNat := by
 apply BitVec.eq_of_toNat_eq
 rw [BitVec.toNat_xor, BitVec.toNat_ofNat, BitVec.toNat_ofNat, BitVec.toNat_ofNat, UInt8.toNat_xor]
 have h1 := a.toNat_lt
 have h2 := b.toNat_lt
 have h3 : a.toNat ^^^ b.toNat < 2 ^ 8 := Nat.xor_lt_two_pow h1 h2
 rw [Nat.mod_eq_of_lt (by omega), Nat.mod_eq_of_lt (by omega), Nat.mod_eq_of_lt (by omega)]
def xor3 (a b c : List UInt8) : List UInt8 := List.zipWith (· ^^^ ·) (List.zipWith (· ^^^ ·) a b) c
/-! ### the sum of what is sealed is one and the same -/
def resid : Nat → BitVec 32
 | 0 => 0#32
 | n + 1 => crcByte (resid n) 255
/-! ### bit by bit -/
theorem u32_mulcr (b : BitVec 32) (c : Nat) (hc : c < 4294967296) : IntKind.u32.wrap ((b.toNat : Int) * (c : Int)) = ((b * BitVec.ofNat 32 c).toNat : Int) := by
 rw [Int.mul_comm, u32_mulc c hc, BitVec.mul_comm]
theorem mul_pow (b : BitVec 32) (c k : Nat) (hc : c % 2 ^ 32 = 2 ^ k) : b * BitVec.ofNat 32 c = b <<< k := by
 apply BitVec.eq_of_toNat_eq
 rw [BitVec.toNat_mul, BitVec.toNat_shiftLeft, Nat.shiftLeft_eq, BitVec.toNat_ofNat, hc]
theorem u32_mul24 (b : BitVec 32) : IntKind.u32.wrap ((b.toNat : Int) * 16777216) = ((b <<< 24).toNat : Int) := by
 have := u32_mulcr b 16777216 (by decide)
 rw [mul_pow b 16777216 24 (by decide)] at this
 exact this
theorem u32_mul2 (b : BitVec 32) : IntKind.u32.wrap ((b.toNat : Int) * 2) = ((b <<< 1).toNat : Int) := by
 have := u32_mulcr b 2 (by decide)
 rw [mul_pow b 2 1 (by decide)] at this
 exact this
theorem u32_msb (w : BitVec 32) : decide ((w.toNat : Int) ≥ 2147483648) = w.msb := by
 rw [BitVec.msb_eq_decide]
 congr 1
 apply propext
 show (2147483648 : Int) ≤ w.toNat ↔ 2147483648 ≤ w.toNat
 omega
theorem u32_suball (w : BitVec 32) : IntKind.u32.wrap (4294967295 - (w.toNat : Int)) = ((~~~w).toNat : Int) := by
 have h := w.isLt
 rw [wrap_u32_id (by omega) (by omega), BitVec.toNat_not]
 omega
theorem u32_xorc (w : BitVec 32) : bitsD .xor .u32 (w.toNat : Int) 79764919 = ((w ^^^ 79764919#32).toNat : Int) := u32_xor w 79764919#32
def refByte (w : BitVec 32) (c : UInt8) : BitVec 32 := crcSteps 8 (w ^^^ (c.toBitVec.setWidth 32) <<< 24)
theorem steps_low (v : BitVec 32) : ∀ n, n ≤ 8 → v.toNat < 2 ^ 24 → crcSteps n v = v <<< n
 | 0, _, _ => (BitVec.shiftLeft_zero v).symm
 | n + 1, hn, hv => by
  rw [crcSteps, steps_low v n (by omega) hv, crcStep_msb]
  have hm : (v <<< n).msb = false := by
   rw [BitVec.msb_eq_decide]
   have h1 : (v <<< n).toNat < 2 ^ 31 := by
    rw [BitVec.toNat_shiftLeft, Nat.shiftLeft_eq]
    have h2 : v.toNat * 2 ^ n < 2 ^ 24 * 2 ^ 7 := by
     have h3 : 2 ^ n ≤ 2 ^ 7 := Nat.pow_le_pow_right (by omega) (by omega)
     calc v.toNat * 2 ^ n ≤ v.toNat * 2 ^ 7 := Nat.mul_le_mul_left _ h3
      _ < 2 ^ 24 * 2 ^ 7 := Nat.mul_lt_mul_of_pos_right hv (by decide)
    exact Nat.lt_of_le_of_lt (Nat.mod_le _ _) h2
   exact decide_eq_false (by omega)
  rw [hm, ← BitVec.shiftLeft_add]
  simp
theorem refByte_eq (w : BitVec 32) (c : UInt8) : refByte w c = crcByte w c := by
 have hsplit : w = (w >>> 24) <<< 24 ^^^ (w <<< 8) >>> 8 := by
  apply BitVec.eq_of_getLsbD_eq
  intro i hi
  simp only [BitVec.getLsbD_xor, BitVec.getLsbD_shiftLeft, BitVec.getLsbD_ushiftRight]
  by_cases h : i < 24
  ·have h1 : 8 + i < 32 := by omega
   have h2 : ¬ 8 + i < 8 := by omega
   have h3 : 8 + i - 8 = i := by omega
   simp [h, h1, h2, h3]
  ·have h1 : ¬ 8 + i < 32 := by omega
   have h3 : 24 + (i - 24) = i := by omega
   simp [h, h1, h3, hi]
 have hlow : ((w <<< 8) >>> 8).toNat < 2 ^ 24 := by
  rw [BitVec.toNat_ushiftRight, Nat.shiftRight_eq_div_pow]
  have := (w <<< 8).isLt
  omega
 have e1 : w >>> 24 = BitVec.ofNat 32 (low8 (w >>> 24)).toNat := by
  apply BitVec.eq_of_toNat_eq
  rw [BitVec.toNat_ofNat]
  show _ = ((w >>> 24).setWidth 8).toNat % 2 ^ 32
  rw [BitVec.toNat_setWidth, BitVec.toNat_ushiftRight, Nat.shiftRight_eq_div_pow]
  have := w.isLt
  omega
 have e2 : c.toBitVec.setWidth 32 = BitVec.ofNat 32 c.toNat := by
  apply BitVec.eq_of_toNat_eq
  rw [BitVec.toNat_ofNat, BitVec.toNat_setWidth]
  rfl
 have htop : (w >>> 24) <<< 24 ^^^ (c.toBitVec.setWidth 32) <<< 24 = BitVec.ofNat 32 (low8 (w >>> 24) ^^^ c).toNat <<< 24 := by
  rw [← BitVec.shiftLeft_xor_distrib, ofNat_xor, ← e1, ← e2]
 have e3 : ((w <<< 8) >>> 8) <<< 8 = w <<< 8 := by
  apply BitVec.eq_of_toNat_eq
  simp only [BitVec.toNat_shiftLeft, BitVec.toNat_ushiftRight, Nat.shiftLeft_eq, Nat.shiftRight_eq_div_pow]
  omega
 have e4 : w ^^^ (c.toBitVec.setWidth 32) <<< 24 = BitVec.ofNat 32 (low8 (w >>> 24) ^^^ c).toNat <<< 24 ^^^ (w <<< 8) >>> 8 := by
  rw [← htop]
  conv => lhs; rw [hsplit]
  rw [BitVec.xor_assoc, BitVec.xor_comm ((w <<< 8) >>> 8), ← BitVec.xor_assoc]
 unfold refByte crcByte
 rw [e4, crcSteps_xor, steps_low _ 8 (by omega) hlow, e3, BitVec.xor_comm]
 rfl
theorem refFold_eq (l : List UInt8) (w : BitVec 32) : l.foldl refByte w = l.foldl crcByte w := by
 induction l generalizing w with
 | nil => rfl
 | cons c l ih => simp only [List.foldl_cons, refByte_eq, ih]
theorem ref_step (w : BitVec 32) : crcStep w = if w.msb then w <<< 1 ^^^ 79764919#32 else w <<< 1 := by
 rw [crcStep_msb]; split <;> simp
theorem low8_nat (w : BitVec 32) : (low8 w).toNat = w.toNat % 256 := by
 show (w.setWidth 8).toNat = _
 rw [BitVec.toNat_setWidth]
theorem q24 (w : BitVec 32) : IntKind.u8.wrap (IntKind.u32.wrap ((w.toNat : Int).tdiv 16777216)) = ((low8 (w >>> 24)).toNat : Int) := by
 have := w.isLt
 rw [low8_nat, BitVec.toNat_ushiftRight, Nat.shiftRight_eq_div_pow, Int.tdiv_eq_ediv_of_nonneg (by omega), wrap_u32_id (by omega) (by omega), IntKind.wrap_u8']
 omega
theorem q16 (w : BitVec 32) : IntKind.u8.wrap ((IntKind.u32.wrap ((w.toNat : Int).tdiv 65536)).tmod 256) = ((low8 (w >>> 16)).toNat : Int) := by
 have := w.isLt
 rw [low8_nat, BitVec.toNat_ushiftRight, Nat.shiftRight_eq_div_pow, Int.tdiv_eq_ediv_of_nonneg (by omega), wrap_u32_id (by omega) (by omega), Int.tmod_eq_emod_of_nonneg (by omega), IntKind.wrap_u8']
 omega
theorem q8 (w : BitVec 32) : IntKind.u8.wrap ((IntKind.u32.wrap ((w.toNat : Int).tdiv 256)).tmod 256) = ((low8 (w >>> 8)).toNat : Int) := by
 have := w.isLt
 rw [low8_nat, BitVec.toNat_ushiftRight, Nat.shiftRight_eq_div_pow, Int.tdiv_eq_ediv_of_nonneg (by omega), wrap_u32_id (by omega) (by omega), Int.tmod_eq_emod_of_nonneg (by omega), IntKind.wrap_u8']
 omega
theorem q0 (w : BitVec 32) : IntKind.u8.wrap ((w.toNat : Int).tmod 256) = ((low8 w).toNat : Int) := by
 have := w.isLt
 rw [low8_nat, Int.tmod_eq_emod_of_nonneg (by omega), IntKind.wrap_u8']
 omega
theorem openD_iff (s : List UInt8) (h : ¬ s.length < 4) : sealD (s.take (s.length - 4)) = s ↔ s.drop (s.length - 4) = sumD (crcSum (s.take (s.length - 4))) := by
 unfold sealD
 constructor
 ·intro e
  have := congrArg (List.drop (s.length - 4)) e
  rw [List.drop_append_of_le_length (by simp), List.drop_of_length_le (by simp)] at this
  simpa using this.symm
 ·intro e
  rw [← e, List.take_append_drop]
/-! ### a burst is found -/
def turnD (x : BitVec 32) (t : Nat) : List UInt8 := sumD (x >>> t) ++ [low8 (x <<< (8 - t))]
/-! ### octets turned over, from one place on -/
def flips (s D : List UInt8) (a i : Nat) : List UInt8 := s.mapIdx (fun j c => if a ≤ j ∧ j < a + i then c ^^^ D.getD (j - a) 0 else c)
end Go.Val
end
