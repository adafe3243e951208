/- The check sum as plain mathematics. -/
import Derived.Test.YtgjmpefhjdgkoaaVM3
section
namespace Go.Val
set_option linter.unusedSimpArgs false
set_option linter.unusedVariables false

def crcStep (w : BitVec 32) : BitVec 32 := w <<< 1 ^^^ 79764919#32 * (w >>> 31)
def crcSteps : Nat → BitVec 32 → BitVec 32
 | 0, w => w
 | n + 1, w => crcStep (crcSteps n w)
def crcWord (i : Nat) : BitVec 32 := crcSteps 8 (BitVec.ofNat 32 i <<< 24)
def crcByte (w : BitVec 32) (c : UInt8) : BitVec 32 := w <<< 8 ^^^ crcWord (low8 (w >>> 24) ^^^ c).toNat
def crcFold (l : List UInt8) : BitVec 32 := l.foldl crcByte (BitVec.allOnes 32)
def crcSum (l : List UInt8) : BitVec 32 := ~~~ crcFold l
def sumD (w : BitVec 32) : List UInt8 := [low8 (w >>> 24), low8 (w >>> 16), low8 (w >>> 8), low8 w]
def sealD (b : List UInt8) : List UInt8 := b ++ sumD (crcSum b)
def openD (s : List UInt8) : List UInt8 × Nat :=
 if s.length < 4 then ([], 3) else if s.drop (s.length - 4) = sumD (crcSum (s.take (s.length - 4))) then (s.take (s.length - 4), 0) else ([], 6)
theorem open_seal (b : List UInt8) : openD (sealD b) = (b, 0) := by
 have hl : (sealD b).length = b.length + 4 := by simp [sealD, sumD]
 have ht : (sealD b).take ((sealD b).length - 4) = b := by rw [hl]; simp [sealD]
 have hd : (sealD b).drop ((sealD b).length - 4) = sumD (crcSum b) := by rw [hl]; simp [sealD]
 unfold openD
 rw [if_neg (by omega), ht, hd, if_pos rfl]

/-! ### linear -/
theorem shr31 (w : BitVec 32) : w >>> 31 = if w.msb then 1#32 else 0#32 := by
 apply BitVec.eq_of_toNat_eq
 rw [BitVec.toNat_ushiftRight, Nat.shiftRight_eq_div_pow]
 have h := BitVec.msb_eq_decide w
 have hlt := w.isLt
 cases hm : w.msb with
 | true =>
  rw [hm] at h
  have := of_decide_eq_true h.symm
  simp only [if_true]
  show w.toNat / 2 ^ 31 = 1
  omega
 | false =>
  rw [hm] at h
  have := of_decide_eq_false h.symm
  simp only [Bool.false_eq_true, if_false]
  show w.toNat / 2 ^ 31 = 0
  omega
theorem crcStep_msb (w : BitVec 32) : crcStep w = w <<< 1 ^^^ (if w.msb then 79764919#32 else 0#32) := by
 unfold crcStep
 rw [shr31]
 split <;> rfl
theorem crcStep_xor (a b : BitVec 32) : crcStep (a ^^^ b) = crcStep a ^^^ crcStep b := by
 simp only [crcStep_msb, BitVec.shiftLeft_xor_distrib, BitVec.msb_xor]
 cases a.msb <;> cases b.msb <;> simp only [Bool.xor_true, Bool.xor_false, Bool.not_true, Bool.not_false, if_true, if_false, Bool.false_eq_true, BitVec.xor_zero]
 ·rw [BitVec.xor_assoc]
 ·rw [BitVec.xor_assoc, BitVec.xor_assoc, BitVec.xor_comm (b <<< 1)]
 ·rw [show a <<< 1 ^^^ 79764919#32 ^^^ (b <<< 1 ^^^ 79764919#32) = (a <<< 1 ^^^ b <<< 1) ^^^ (79764919#32 ^^^ 79764919#32) by ac_rfl, BitVec.xor_self, BitVec.xor_zero]
theorem crcSteps_xor (n : Nat) (a b : BitVec 32) : crcSteps n (a ^^^ b) = crcSteps n a ^^^ crcSteps n b := by
 induction n with
 | zero => rfl
 | succ n ih => rw [crcSteps, crcSteps, crcSteps, ih, crcStep_xor]
theorem ofNat_xor (a b : UInt8) : BitVec.ofNat 32 (a ^^^ b).toNat = BitVec.ofNat 32 a.toNat ^^^ BitVec.ofNat 32 b.toNat := by
 apply BitVec.eq_of_toNat_eq
 rw [BitVec.toNat_xor, BitVec.toNat_ofNat, BitVec.toNat_ofNat, BitVec.toNat_ofNat, UInt8.toNat_xor]
 have h1 := a.toNat_lt
 have h2 := b.toNat_lt
 have h3 : a.toNat ^^^ b.toNat < 2 ^ 8 := Nat.xor_lt_two_pow h1 h2
 rw [Nat.mod_eq_of_lt (by omega), Nat.mod_eq_of_lt (by omega), Nat.mod_eq_of_lt (by omega)]
theorem crcWord_xor (a b : UInt8) : crcWord (a ^^^ b).toNat = crcWord a.toNat ^^^ crcWord b.toNat := by
 unfold crcWord
 rw [ofNat_xor, BitVec.shiftLeft_xor_distrib, crcSteps_xor]
theorem low8_xor (a b : BitVec 32) : low8 (a ^^^ b) = low8 a ^^^ low8 b := by
 unfold low8
 rw [BitVec.setWidth_xor]
 rfl
theorem crcByte_xor (v w : BitVec 32) (c d : UInt8) : crcByte (v ^^^ w) (c ^^^ d) = crcByte v c ^^^ crcByte w d := by
 unfold crcByte
 rw [BitVec.shiftLeft_xor_distrib, BitVec.ushiftRight_xor_distrib, low8_xor,
  show low8 (v >>> 24) ^^^ low8 (w >>> 24) ^^^ (c ^^^ d) = (low8 (v >>> 24) ^^^ c) ^^^ (low8 (w >>> 24) ^^^ d) by ac_rfl, crcWord_xor]
 ac_rfl
def xor3 (a b c : List UInt8) : List UInt8 := List.zipWith (· ^^^ ·) (List.zipWith (· ^^^ ·) a b) c
/-! ### the sum of what is sealed is one and the same -/
theorem crcByte_top (w : BitVec 32) : crcByte w (low8 (w >>> 24)) = w <<< 8 := by
 unfold crcByte
 rw [UInt8.xor_self]
 rw [show crcWord (0 : UInt8).toNat = 0#32 by decide, BitVec.xor_zero]
theorem low8_not (w : BitVec 32) : low8 (~~~w) = low8 w ^^^ 255 := by
 have : ~~~w = w ^^^ BitVec.allOnes 32 := by rw [BitVec.xor_comm, BitVec.allOnes_xor]
 rw [this, low8_xor]
 rfl
theorem shr_not (w : BitVec 32) (k : Nat) (hk : k ≤ 24) : low8 ((~~~w) >>> k) = low8 (w >>> k) ^^^ 255 := by
 have h1 : ~~~w = w ^^^ BitVec.allOnes 32 := by rw [BitVec.xor_comm, BitVec.allOnes_xor]
 rw [h1, BitVec.ushiftRight_xor_distrib, low8_xor]
 congr 1
 have : ∀ k : Fin 25, low8 ((BitVec.allOnes 32) >>> k.val) = 255 := by decide
 exact this ⟨k, by omega⟩
theorem low8_shift (w : BitVec 32) (j k : Nat) (h : j + k = 24) : low8 ((w <<< j) >>> 24) = low8 (w >>> k) := by
 unfold low8
 congr 1
 apply BitVec.eq_of_getLsbD_eq
 intro i hi
 simp only [BitVec.getLsbD_setWidth, BitVec.getLsbD_ushiftRight, BitVec.getLsbD_shiftLeft]
 have e : 24 + i - j = k + i := by omega
 rw [e]
 have h1 : 24 + i < 32 := by omega
 have h2 : ¬ 24 + i < j := by omega
 simp [h1, h2]
def resid : Nat → BitVec 32
 | 0 => 0#32
 | n + 1 => crcByte (resid n) 255
theorem feed (w : BitVec 32) (j k : Nat) (n : Nat) (h : j + k = 24) : crcByte (w <<< j ^^^ resid n) (low8 (w >>> k) ^^^ 255) = w <<< (j + 8) ^^^ resid (n + 1) := by
 rw [crcByte_xor, ← low8_shift w j k h, crcByte_top, ← BitVec.shiftLeft_add, resid]
theorem seal_fold (b : List UInt8) : crcFold (sealD b) = resid 4 := by
 unfold sealD crcFold
 rw [List.foldl_append]
 show (sumD (~~~ crcFold b)).foldl crcByte (crcFold b) = _
 generalize crcFold b = w
 simp only [sumD, List.foldl_cons, List.foldl_nil]
 rw [show (~~~w) = (~~~w) >>> 0 from (BitVec.ushiftRight_zero _).symm]
 simp only [BitVec.ushiftRight_zero]
 rw [shr_not w 24 (by omega), shr_not w 16 (by omega), shr_not w 8 (by omega), low8_not]
 have f0 := feed w 0 24 0 rfl
 rw [BitVec.shiftLeft_zero, show w ^^^ resid 0 = w from BitVec.xor_zero] at f0
 rw [f0, feed w 8 16 1 rfl, feed w 16 8 2 rfl]
 have f3 := feed w 24 0 3 rfl
 rw [BitVec.ushiftRight_zero] at f3
 rw [f3, show w <<< (24 + 8) = 0#32 from BitVec.shiftLeft_eq_zero (by omega), BitVec.zero_xor]
/-! ### bit by bit -/
theorem u32_mulcr (b : BitVec 32) (c : Nat) (hc : c < 4294967296) : IntKind.u32.wrap ((b.toNat : Int) * (c : Int)) = ((b * BitVec.ofNat 32 c).toNat : Int) := by
 rw [Int.mul_comm, u32_mulc c hc, BitVec.mul_comm]
theorem mul_pow (b : BitVec 32) (c k : Nat) (hc : c % 2 ^ 32 = 2 ^ k) : b * BitVec.ofNat 32 c = b <<< k := by
 apply BitVec.eq_of_toNat_eq
 rw [BitVec.toNat_mul, BitVec.toNat_shiftLeft, Nat.shiftLeft_eq, BitVec.toNat_ofNat, hc]
theorem u32_mul24 (b : BitVec 32) : IntKind.u32.wrap ((b.toNat : Int) * 16777216) = ((b <<< 24).toNat : Int) := by
 have := u32_mulcr b 16777216 (by decide)
 rw [mul_pow b 16777216 24 (by decide)] at this
 exact this
theorem u32_mul2 (b : BitVec 32) : IntKind.u32.wrap ((b.toNat : Int) * 2) = ((b <<< 1).toNat : Int) := by
 have := u32_mulcr b 2 (by decide)
 rw [mul_pow b 2 1 (by decide)] at this
 exact this
theorem u32_msb (w : BitVec 32) : decide ((w.toNat : Int) ≥ 2147483648) = w.msb := by
 rw [BitVec.msb_eq_decide]
 congr 1
 apply propext
 show (2147483648 : Int) ≤ w.toNat ↔ 2147483648 ≤ w.toNat
 omega
theorem u32_suball (w : BitVec 32) : IntKind.u32.wrap (4294967295 - (w.toNat : Int)) = ((~~~w).toNat : Int) := by
 have h := w.isLt
 rw [wrap_u32_id (by omega) (by omega), BitVec.toNat_not]
 omega
theorem u32_xorc (w : BitVec 32) : bitsD .xor .u32 (w.toNat : Int) 79764919 = ((w ^^^ 79764919#32).toNat : Int) := u32_xor w 79764919#32
def refByte (w : BitVec 32) (c : UInt8) : BitVec 32 := crcSteps 8 (w ^^^ (c.toBitVec.setWidth 32) <<< 24)
theorem steps_low (v : BitVec 32) : ∀ n, n ≤ 8 → v.toNat < 2 ^ 24 → crcSteps n v = v <<< n
 | 0, _, _ => (BitVec.shiftLeft_zero v).symm
 | n + 1, hn, hv => by
  rw [crcSteps, steps_low v n (by omega) hv, crcStep_msb]
  have hm : (v <<< n).msb = false := by
   rw [BitVec.msb_eq_decide]
   have h1 : (v <<< n).toNat < 2 ^ 31 := by
    rw [BitVec.toNat_shiftLeft, Nat.shiftLeft_eq]
    have h2 : v.toNat * 2 ^ n < 2 ^ 24 * 2 ^ 7 := by
     have h3 : 2 ^ n ≤ 2 ^ 7 := Nat.pow_le_pow_right (by omega) (by omega)
     calc v.toNat * 2 ^ n ≤ v.toNat * 2 ^ 7 := Nat.mul_le_mul_left _ h3
      _ < 2 ^ 24 * 2 ^ 7 := Nat.mul_lt_mul_of_pos_right hv (by decide)
    exact Nat.lt_of_le_of_lt (Nat.mod_le _ _) h2
   exact decide_eq_false (by omega)
  rw [hm, ← BitVec.shiftLeft_add]
  simp
theorem refByte_eq (w : BitVec 32) (c : UInt8) : refByte w c = crcByte w c := by
 have hsplit : w = (w >>> 24) <<< 24 ^^^ (w <<< 8) >>> 8 := by
  apply BitVec.eq_of_getLsbD_eq
  intro i hi
  simp only [BitVec.getLsbD_xor, BitVec.getLsbD_shiftLeft, BitVec.getLsbD_ushiftRight]
  by_cases h : i < 24
  ·have h1 : 8 + i < 32 := by omega
   have h2 : ¬ 8 + i < 8 := by omega
   have h3 : 8 + i - 8 = i := by omega
   simp [h, h1, h2, h3]
  ·have h1 : ¬ 8 + i < 32 := by omega
   have h3 : 24 + (i - 24) = i := by omega
   simp [h, h1, h3, hi]
 have hlow : ((w <<< 8) >>> 8).toNat < 2 ^ 24 := by
  rw [BitVec.toNat_ushiftRight, Nat.shiftRight_eq_div_pow]
  have := (w <<< 8).isLt
  omega
 have e1 : w >>> 24 = BitVec.ofNat 32 (low8 (w >>> 24)).toNat := by
  apply BitVec.eq_of_toNat_eq
  rw [BitVec.toNat_ofNat]
  show _ = ((w >>> 24).setWidth 8).toNat % 2 ^ 32
  rw [BitVec.toNat_setWidth, BitVec.toNat_ushiftRight, Nat.shiftRight_eq_div_pow]
  have := w.isLt
  omega
 have e2 : c.toBitVec.setWidth 32 = BitVec.ofNat 32 c.toNat := by
  apply BitVec.eq_of_toNat_eq
  rw [BitVec.toNat_ofNat, BitVec.toNat_setWidth]
  rfl
 have htop : (w >>> 24) <<< 24 ^^^ (c.toBitVec.setWidth 32) <<< 24 = BitVec.ofNat 32 (low8 (w >>> 24) ^^^ c).toNat <<< 24 := by
  rw [← BitVec.shiftLeft_xor_distrib, ofNat_xor, ← e1, ← e2]
 have e3 : ((w <<< 8) >>> 8) <<< 8 = w <<< 8 := by
  apply BitVec.eq_of_toNat_eq
  simp only [BitVec.toNat_shiftLeft, BitVec.toNat_ushiftRight, Nat.shiftLeft_eq, Nat.shiftRight_eq_div_pow]
  omega
 have e4 : w ^^^ (c.toBitVec.setWidth 32) <<< 24 = BitVec.ofNat 32 (low8 (w >>> 24) ^^^ c).toNat <<< 24 ^^^ (w <<< 8) >>> 8 := by
  rw [← htop]
  conv => lhs; rw [hsplit]
  rw [BitVec.xor_assoc, BitVec.xor_comm ((w <<< 8) >>> 8), ← BitVec.xor_assoc]
 unfold refByte crcByte
 rw [e4, crcSteps_xor, steps_low _ 8 (by omega) hlow, e3, BitVec.xor_comm]
 rfl
theorem refFold_eq (l : List UInt8) (w : BitVec 32) : l.foldl refByte w = l.foldl crcByte w := by
 induction l generalizing w with
 | nil => rfl
 | cons c l ih => simp only [List.foldl_cons, refByte_eq, ih]
theorem ref_step (w : BitVec 32) : crcStep w = if w.msb then w <<< 1 ^^^ 79764919#32 else w <<< 1 := by
 rw [crcStep_msb]; split <;> simp
theorem low8_nat (w : BitVec 32) : (low8 w).toNat = w.toNat % 256 := by
 show (w.setWidth 8).toNat = _
 rw [BitVec.toNat_setWidth]
theorem q24 (w : BitVec 32) : IntKind.u8.wrap (IntKind.u32.wrap ((w.toNat : Int).tdiv 16777216)) = ((low8 (w >>> 24)).toNat : Int) := by
 have := w.isLt
 rw [low8_nat, BitVec.toNat_ushiftRight, Nat.shiftRight_eq_div_pow, Int.tdiv_eq_ediv_of_nonneg (by omega), wrap_u32_id (by omega) (by omega), IntKind.wrap_u8']
 omega
theorem q16 (w : BitVec 32) : IntKind.u8.wrap ((IntKind.u32.wrap ((w.toNat : Int).tdiv 65536)).tmod 256) = ((low8 (w >>> 16)).toNat : Int) := by
 have := w.isLt
 rw [low8_nat, BitVec.toNat_ushiftRight, Nat.shiftRight_eq_div_pow, Int.tdiv_eq_ediv_of_nonneg (by omega), wrap_u32_id (by omega) (by omega), Int.tmod_eq_emod_of_nonneg (by omega), IntKind.wrap_u8']
 omega
theorem q8 (w : BitVec 32) : IntKind.u8.wrap ((IntKind.u32.wrap ((w.toNat : Int).tdiv 256)).tmod 256) = ((low8 (w >>> 8)).toNat : Int) := by
 have := w.isLt
 rw [low8_nat, BitVec.toNat_ushiftRight, Nat.shiftRight_eq_div_pow, Int.tdiv_eq_ediv_of_nonneg (by omega), wrap_u32_id (by omega) (by omega), Int.tmod_eq_emod_of_nonneg (by omega), IntKind.wrap_u8']
 omega
theorem q0 (w : BitVec 32) : IntKind.u8.wrap ((w.toNat : Int).tmod 256) = ((low8 w).toNat : Int) := by
 have := w.isLt
 rw [low8_nat, Int.tmod_eq_emod_of_nonneg (by omega), IntKind.wrap_u8']
 omega
theorem openD_iff (s : List UInt8) (h : ¬ s.length < 4) : sealD (s.take (s.length - 4)) = s ↔ s.drop (s.length - 4) = sumD (crcSum (s.take (s.length - 4))) := by
 unfold sealD
 constructor
 ·intro e
  have := congrArg (List.drop (s.length - 4)) e
  rw [List.drop_append_of_le_length (by simp), List.drop_of_length_le (by simp)] at this
  simpa using this.symm
 ·intro e
  rw [← e, List.take_append_drop]
/-! ### a burst is found -/
theorem crcStep_zero {a : BitVec 32} (h : crcStep a = 0#32) : a = 0#32 := by
 rw [crcStep_msb] at h
 cases hm : a.msb with
 | false =>
  rw [hm] at h
  simp only [Bool.false_eq_true, if_false, BitVec.xor_zero] at h
  have h1 := congrArg BitVec.toNat h
  rw [BitVec.msb_eq_decide] at hm
  have h2 := of_decide_eq_false hm
  apply BitVec.eq_of_toNat_eq
  rw [BitVec.toNat_shiftLeft, Nat.shiftLeft_eq] at h1
  simp only [BitVec.toNat_ofNat, Nat.zero_mod] at h1 ⊢
  omega
 | true =>
  rw [hm, if_pos rfl] at h
  have h1 := congrArg (fun v => v.getLsbD 0) h
  simp only [BitVec.getLsbD_xor, BitVec.getLsbD_shiftLeft] at h1
  simp at h1
theorem crcSteps_zero {a : BitVec 32} : ∀ {n : Nat}, crcSteps n a = 0#32 → a = 0#32
 | 0, h => h
 | n + 1, h => crcSteps_zero (crcStep_zero h)
theorem crcSteps_add (m n : Nat) (w : BitVec 32) : crcSteps m (crcSteps n w) = crcSteps (m + n) w := by
 induction m with
 | zero => rw [Nat.zero_add]; rfl
 | succ m ih => rw [crcSteps, ih, Nat.succ_add]; rfl
theorem steps_low2 (v : BitVec 32) (t : Nat) : ∀ n, t + n ≤ 32 → v.toNat < 2 ^ t → crcSteps n v = v <<< n
 | 0, _, _ => (BitVec.shiftLeft_zero v).symm
 | n + 1, hn, hv => by
  rw [crcSteps, steps_low2 v t n (by omega) hv, crcStep_msb]
  have hm : (v <<< n).msb = false := by
   rw [BitVec.msb_eq_decide]
   have h1 : (v <<< n).toNat < 2 ^ 31 := by
    rw [BitVec.toNat_shiftLeft, Nat.shiftLeft_eq]
    have h2 : v.toNat * 2 ^ n < 2 ^ t * 2 ^ n := Nat.mul_lt_mul_of_pos_right hv (Nat.pow_pos (by omega))
    rw [← Nat.pow_add] at h2
    have h3 : 2 ^ (t + n) ≤ 2 ^ 31 := Nat.pow_le_pow_right (by omega) (by omega)
    exact Nat.lt_of_le_of_lt (Nat.mod_le _ _) (Nat.lt_of_lt_of_le h2 h3)
   exact decide_eq_false (by omega)
  rw [hm, ← BitVec.shiftLeft_add]
  simp
theorem crcByte_zero (w : BitVec 32) : crcByte w 0 = crcSteps 8 w := by
 rw [← refByte_eq, refByte]
 rw [show ((0 : UInt8).toBitVec.setWidth 32) <<< 24 = 0#32 by decide, BitVec.xor_zero]
theorem feed1 (S y : BitVec 32) : crcByte (S ^^^ y) (low8 (y >>> 24)) = crcSteps 8 S ^^^ y <<< 8 := by
 have := crcByte_xor S y 0 (low8 (y >>> 24))
 rw [UInt8.zero_xor, crcByte_zero, crcByte_top] at this
 exact this
theorem feed4 (w y : BitVec 32) : (sumD y).foldl crcByte w = crcSteps 32 (w ^^^ y) := by
 simp only [sumD, List.foldl_cons, List.foldl_nil]
 have h0 := feed1 (w ^^^ y) y
 rw [BitVec.xor_assoc, BitVec.xor_self, BitVec.xor_zero] at h0
 have h1 := feed1 (crcSteps 8 (w ^^^ y)) (y <<< 8)
 rw [low8_shift y 8 16 rfl] at h1
 have h2 := feed1 (crcSteps 8 (crcSteps 8 (w ^^^ y))) (y <<< 8 <<< 8)
 rw [← BitVec.shiftLeft_add, low8_shift y 16 8 rfl] at h2
 have h3 := feed1 (crcSteps 8 (crcSteps 8 (crcSteps 8 (w ^^^ y)))) (y <<< 16 <<< 8)
 rw [← BitVec.shiftLeft_add, low8_shift y 24 0 rfl, BitVec.ushiftRight_zero] at h3
 rw [h0, h1, ← BitVec.shiftLeft_add, h2, ← BitVec.shiftLeft_add, h3, ← BitVec.shiftLeft_add, BitVec.shiftLeft_eq_zero (by omega), BitVec.xor_zero, crcSteps_add, crcSteps_add, crcSteps_add]
theorem zeros_fold (w : BitVec 32) (m : Nat) : (List.replicate m (0 : UInt8)).foldl crcByte w = crcSteps (8 * m) w := by
 induction m generalizing w with
 | zero => rfl
 | succ m ih => rw [List.replicate_succ, List.foldl_cons, ih, crcByte_zero, crcSteps_add]; rfl
theorem crcSteps_of_zero (n : Nat) : crcSteps n 0#32 = 0#32 := by
 have := crcSteps_xor n 0#32 0#32
 rw [BitVec.xor_self, BitVec.xor_self] at this
 exact this
theorem burst5 (x : BitVec 32) (t : Nat) (ht : t ≤ 7) : crcByte (crcSteps 32 (x >>> t)) (low8 (x <<< (8 - t))) = crcSteps (40 - t) x := by
 have hlo : x = (x >>> t) <<< t ^^^ (x &&& (BitVec.ofNat 32 (2 ^ t - 1))) := by
  apply BitVec.eq_of_getLsbD_eq
  intro i hi
  simp only [BitVec.getLsbD_xor, BitVec.getLsbD_shiftLeft, BitVec.getLsbD_ushiftRight, BitVec.getLsbD_and, BitVec.getLsbD_ofNat, Nat.testBit_two_pow_sub_one]
  by_cases h : i < t
  ·simp [h, hi]
  ·have h3 : t + (i - t) = i := by omega
   simp [h, hi, h3]
 generalize hl : x &&& (BitVec.ofNat 32 (2 ^ t - 1)) = lo at hlo
 have hlob : ∀ i, lo.getLsbD i = (x.getLsbD i && decide (i < t)) := by
  intro i
  rw [← hl]
  simp only [BitVec.getLsbD_and, BitVec.getLsbD_ofNat, Nat.testBit_two_pow_sub_one]
  by_cases h : i < 32
  ·simp [h]
  ·rw [BitVec.getLsbD_of_ge x i (by omega)]; rfl
 have hlt : lo.toNat < 2 ^ t := by
  rw [← hl, BitVec.toNat_and, BitVec.toNat_ofNat]
  have h1 : 2 ^ t ≤ 2 ^ 7 := Nat.pow_le_pow_right (by omega) ht
  have h2 : 0 < 2 ^ t := Nat.pow_pos (by omega)
  rw [Nat.mod_eq_of_lt (by omega)]
  have := @Nat.and_le_right x.toNat (2 ^ t - 1)
  omega
 have hhi : (x >>> t).toNat < 2 ^ (32 - t) := by
  rw [BitVec.toNat_ushiftRight, Nat.shiftRight_eq_div_pow, Nat.div_lt_iff_lt_mul (Nat.pow_pos (by omega)), ← Nat.pow_add, show 32 - t + t = 32 by omega]
  exact x.isLt
 have e1 : crcSteps 32 (x >>> t) = crcSteps (32 - t) x ^^^ lo <<< (32 - t) := by
  have h1 := crcSteps_add (32 - t) t (x >>> t)
  rw [show 32 - t + t = 32 by omega, steps_low2 (x >>> t) (32 - t) t (by omega) hhi] at h1
  rw [← h1, show (x >>> t) <<< t = x ^^^ lo by
   conv => rhs; rw [hlo]
   rw [BitVec.xor_assoc, BitVec.xor_self, BitVec.xor_zero], crcSteps_xor, steps_low2 lo t (32 - t) (by omega) hlt]
 have e2 : ((low8 (x <<< (8 - t))).toBitVec.setWidth 32) <<< 24 = lo <<< (32 - t) := by
  show (((x <<< (8 - t)).setWidth 8).setWidth 32) <<< 24 = _
  apply BitVec.eq_of_getLsbD_eq
  intro i hi
  simp only [BitVec.getLsbD_shiftLeft, BitVec.getLsbD_setWidth, hlob]
  by_cases h24 : i < 24
  ·have : i < 32 - t := by omega
   simp [h24, this]
  ·by_cases h : i < 32 - t
   ·have h1 : i - 24 < 8 - t := by omega
    simp [h24, h, h1]
   ·have h1 : ¬ i - 24 < 8 - t := by omega
    have h2 : i - (32 - t) < t := by omega
    have h3 : i - 24 - (8 - t) = i - (32 - t) := by omega
    have h4 : i - 24 < 32 := by omega
    have h5 : i - 24 < 8 := by omega
    simp [h24, h, h1, h2, h3, h4, h5, hi]
 rw [← refByte_eq, refByte, e1, e2, BitVec.xor_assoc, BitVec.xor_self, BitVec.xor_zero, crcSteps_add]
 congr 1
 omega
theorem open_residue (s : List UInt8) (h : ¬ s.length < 4) (hr : crcFold s ≠ resid 4) : openD s = ([], 6) := by
 rw [openD, if_neg h, if_neg]
 intro e
 apply hr
 have := (openD_iff s h).2 e
 rw [← this, seal_fold]
theorem fold_xor : ∀ (a b : List UInt8) (u v : BitVec 32), a.length = b.length → (List.zipWith (· ^^^ ·) a b).foldl crcByte (u ^^^ v) = a.foldl crcByte u ^^^ b.foldl crcByte v
 | [], [], _, _, _ => rfl
 | x :: a, y :: b, u, v, h => by
  simp only [List.zipWith_cons_cons, List.foldl_cons, crcByte_xor]
  exact fold_xor a b _ _ (by simpa using h)
 | [], _ :: _, _, _, h => by simp at h
 | _ :: _, [], _, _, h => by simp at h
def turnD (x : BitVec 32) (t : Nat) : List UInt8 := sumD (x >>> t) ++ [low8 (x <<< (8 - t))]
theorem turn_fold (x : BitVec 32) (hx : x ≠ 0#32) (t : Nat) (ht : t ≤ 7) (a m : Nat) : (List.replicate a (0 : UInt8) ++ turnD x t ++ List.replicate m (0 : UInt8)).foldl crcByte 0#32 ≠ 0#32 := by
 rw [List.foldl_append, List.foldl_append, zeros_fold _ m, zeros_fold _ a, crcSteps_of_zero, turnD, List.foldl_append, feed4, BitVec.zero_xor]
 simp only [List.foldl_cons, List.foldl_nil]
 rw [burst5 x t ht]
 intro h
 exact hx (crcSteps_zero (crcSteps_zero h))
theorem turn_fold4 (x : BitVec 32) (hx : x ≠ 0#32) (a : Nat) : (List.replicate a (0 : UInt8) ++ sumD x).foldl crcByte 0#32 ≠ 0#32 := by
 rw [List.foldl_append, zeros_fold, crcSteps_of_zero, feed4, BitVec.zero_xor]
 intro h
 exact hx (crcSteps_zero h)
/-! ### octets turned over, from one place on -/
def flips (s D : List UInt8) (a i : Nat) : List UInt8 := s.mapIdx (fun j c => if a ≤ j ∧ j < a + i then c ^^^ D.getD (j - a) 0 else c)
theorem flips_len (s D : List UInt8) (a i : Nat) : (flips s D a i).length = s.length := List.length_mapIdx
theorem flips_zero (s D : List UInt8) (a : Nat) : flips s D a 0 = s := by
 apply List.ext_getElem?
 intro j
 rw [flips, List.getElem?_mapIdx]
 have : ¬ (a ≤ j ∧ j < a + 0) := by omega
 simp only [this, if_false]
 cases s[j]? <;> rfl
theorem flips_get (s D : List UInt8) (a i : Nat) : (flips s D a i)[a + i]? = s[a + i]? := by
 rw [flips, List.getElem?_mapIdx]
 have : ¬ (a ≤ a + i ∧ a + i < a + i) := by omega
 simp only [this, if_false]
 cases s[a + i]? <;> rfl
theorem flips_set (s D : List UInt8) (a i : Nat) (c : UInt8) (h : s[a + i]? = some c) : (flips s D a i).set (a + i) (c ^^^ D.getD i 0) = flips s D a (i + 1) := by
 have hl := (List.getElem?_eq_some_iff.1 h).1
 apply List.ext_getElem?
 intro j
 rw [List.getElem?_set, flips_len]
 by_cases e : a + i = j
 ·subst e
  rw [if_pos rfl, if_pos hl, flips, List.getElem?_mapIdx, h]
  have : a ≤ a + i ∧ a + i < a + (i + 1) := by omega
  simp only [Option.map_some, if_pos this, show a + i - a = i by omega]
 ·rw [if_neg e, flips, flips, List.getElem?_mapIdx, List.getElem?_mapIdx]
  have : (a ≤ j ∧ j < a + i) ↔ (a ≤ j ∧ j < a + (i + 1)) := by omega
  simp only [this]
theorem flips_zip (s D : List UInt8) (a n : Nat) (h1 : a + n ≤ s.length) (h2 : n ≤ D.length) :
  flips s D a n = List.zipWith (· ^^^ ·) s (List.replicate a (0 : UInt8) ++ D.take n ++ List.replicate (s.length - a - n) (0 : UInt8)) := by
 apply List.ext_getElem?
 intro j
 rw [flips, List.getElem?_mapIdx, List.getElem?_zipWith]
 cases hs : s[j]? with
 | none => rfl
 | some c =>
  have hj := (List.getElem?_eq_some_iff.1 hs).1
  simp only [Option.map_some]
  have htl : (D.take n).length = n := by rw [List.length_take]; omega
  by_cases hA : j < a
  ·rw [List.append_assoc, List.getElem?_append_left (by simpa using hA), List.getElem?_replicate, if_pos hA, if_neg (by omega)]
   simp
  ·by_cases hB : j < a + n
   ·rw [List.append_assoc, List.getElem?_append_right (by simp; omega), List.length_replicate, List.getElem?_append_left (by omega), List.getElem?_take, if_pos (by omega), if_pos (by omega),
     List.getD_eq_getElem?_getD, List.getElem?_eq_getElem (by omega)]
    rfl
   ·have hlen : (List.replicate a (0 : UInt8) ++ D.take n).length = a + n := by rw [List.length_append, List.length_replicate, htl]
    have hc : ¬ (a ≤ j ∧ j < a + n) := by omega
    rw [List.getElem?_append_right (by rw [hlen]; omega), hlen, List.getElem?_replicate, if_neg hc, if_pos (by omega : j - (a + n) < s.length - a - n)]
    simp
theorem flips_open (s : List UInt8) (hs : crcFold s = resid 4) (x : BitVec 32) (hx : x ≠ 0#32) (K : Nat) (hK : K + 32 ≤ 8 * s.length) (n : Nat) (hn : n = min 5 (s.length - K / 8)) :
  openD (flips s (turnD x (K % 8)) (K / 8) n) = ([], 6) := by
 have hl := flips_len s (turnD x (K % 8)) (K / 8) n
 refine open_residue _ (by rw [hl]; omega) ?_
 have hD : (turnD x (K % 8)).length = 5 := rfl
 rw [flips_zip _ _ _ _ (by omega) (by omega)]
 have hE : (List.replicate (K / 8) (0 : UInt8) ++ (turnD x (K % 8)).take n ++ List.replicate (s.length - K / 8 - n) (0 : UInt8)).length = s.length := by
  simp [hD]; omega
 have hf := fold_xor s (List.replicate (K / 8) (0 : UInt8) ++ (turnD x (K % 8)).take n ++ List.replicate (s.length - K / 8 - n) (0 : UInt8)) (BitVec.allOnes 32) 0#32 hE.symm
 rw [BitVec.xor_zero] at hf
 unfold crcFold at hs ⊢
 rw [hf, hs]
 intro e
 have hz : (List.replicate (K / 8) (0 : UInt8) ++ (turnD x (K % 8)).take n ++ List.replicate (s.length - K / 8 - n) (0 : UInt8)).foldl crcByte 0#32 = 0#32 := by
  have := congrArg (fun v => resid 4 ^^^ v) e
  simpa [← BitVec.xor_assoc] using this
 by_cases h5 : n = 5
 ·rw [h5, List.take_of_length_le (by omega)] at hz
  exact turn_fold x hx (K % 8) (by omega) _ _ hz
 ·have h4 : n = 4 := by omega
  have h8 : K % 8 = 0 := by omega
  have hm : s.length - K / 8 - n = 0 := by omega
  rw [hm, h4, h8, List.replicate_zero, List.append_nil] at hz
  have : (turnD x 0).take 4 = sumD x := by
   rw [turnD, BitVec.ushiftRight_zero]
   rfl
  rw [this] at hz
  exact turn_fold4 x hx _ hz
theorem shift_div (x t m : Nat) : x * 2 ^ (32 - t) / 2 ^ (32 - t + m) = x / 2 ^ m := by
 rw [Nat.pow_add, Nat.mul_comm x, Nat.mul_div_mul_left _ _ (Nat.pow_pos (by omega))]
theorem turn_byte (x : BitVec 32) (t : Nat) (ht : t ≤ 7) (i : Nat) (hi : i < 5) : (x.toNat * 2 ^ (32 - t)) / 2 ^ (56 - 8 * i) % 256 = ((turnD x t).getD i 0).toNat := by
 have sh : ∀ k, (low8 ((x >>> t) >>> k)).toNat = x.toNat / 2 ^ (t + k) % 256 := by
  intro k
  rw [low8_nat, BitVec.toNat_ushiftRight, BitVec.toNat_ushiftRight, Nat.shiftRight_eq_div_pow, Nat.shiftRight_eq_div_pow, Nat.div_div_eq_div_mul, ← Nat.pow_add]
 rcases i with _ | _ | _ | _ | _ | i
 ·rw [show 56 - 8 * 0 = 32 - t + (t + 24) by omega, shift_div]; exact (sh 24).symm
 ·rw [show 56 - 8 * (0 + 1) = 32 - t + (t + 16) by omega, shift_div]; exact (sh 16).symm
 ·rw [show 56 - 8 * (0 + 1 + 1) = 32 - t + (t + 8) by omega, shift_div]; exact (sh 8).symm
 ·rw [show 56 - 8 * (0 + 1 + 1 + 1) = 32 - t + (t + 0) by omega, shift_div]
  have := sh 0
  rw [BitVec.ushiftRight_zero] at this
  exact this.symm
 ·show _ = (low8 (x <<< (8 - t))).toNat
  rw [low8_nat, BitVec.toNat_shiftLeft, Nat.shiftLeft_eq, show 56 - 8 * (0 + 1 + 1 + 1 + 1) = 24 by omega, show 32 - t = (8 - t) + 24 by omega, Nat.pow_add, ← Nat.mul_assoc, Nat.mul_div_cancel _ (by decide)]
  omega
 ·omega
end Go.Val
end
