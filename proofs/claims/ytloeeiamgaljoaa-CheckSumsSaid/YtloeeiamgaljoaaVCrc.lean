/- The check sum as plain mathematics. -/
import Derived.Test.YtloeeiamgaljoaaVNum
namespace Go.Val
set_option linter.unusedSimpArgs false
set_option linter.unusedVariables false

def crcStep (w : BitVec 32) : BitVec 32 := w <<< 1 ^^^ 79764919#32 * (w >>> 31)
def crcSteps : Nat → BitVec 32 → BitVec 32
  | 0, w => w
  | n + 1, w => crcStep (crcSteps n w)
def crcWord (i : Nat) : BitVec 32 := crcSteps 8 (BitVec.ofNat 32 i <<< 24)
def crcByte (w : BitVec 32) (c : UInt8) : BitVec 32 := w <<< 8 ^^^ crcWord (low8 (w >>> 24) ^^^ c).toNat
def crcFold (l : List UInt8) : BitVec 32 := l.foldl crcByte (BitVec.allOnes 32)
def crcSum (l : List UInt8) : BitVec 32 := ~~~ crcFold l
def sumD (w : BitVec 32) : List UInt8 := [low8 (w >>> 24), low8 (w >>> 16), low8 (w >>> 8), low8 w]
def sealD (b : List UInt8) : List UInt8 := b ++ sumD (crcSum b)
/-- What opening comes to: octets, and the error's number. -/
def openD (s : List UInt8) : List UInt8 × Nat :=
  if s.length < 4 then ([], 3) else if s.drop (s.length - 4) = sumD (crcSum (s.take (s.length - 4))) then (s.take (s.length - 4), 0) else ([], 6)
theorem sumD_len (w : BitVec 32) : (sumD w).length = 4 := rfl
theorem take4 (w : BitVec 32) : (bytes (sumD w)).take 4 = bytes (sumD w) := rfl

theorem open_seal (b : List UInt8) : openD (sealD b) = (b, 0) := by
  have hl : (sealD b).length = b.length + 4 := by simp [sealD, sumD]
  have ht : (sealD b).take ((sealD b).length - 4) = b := by rw [hl]; simp [sealD]
  have hd : (sealD b).drop ((sealD b).length - 4) = sumD (crcSum b) := by rw [hl]; simp [sealD]
  unfold openD
  rw [if_neg (by omega), ht, hd, if_pos rfl]

/-! ### linear -/
theorem shr31 (w : BitVec 32) : w >>> 31 = if w.msb then 1#32 else 0#32 := by
  apply BitVec.eq_of_toNat_eq
  rw [BitVec.toNat_ushiftRight, Nat.shiftRight_eq_div_pow]
  have h := BitVec.msb_eq_decide w
  have hlt := w.isLt
  cases hm : w.msb with
  | true =>
    rw [hm] at h
    have := of_decide_eq_true h.symm
    simp only [if_true]
    show w.toNat / 2 ^ 31 = 1
    omega
  | false =>
    rw [hm] at h
    have := of_decide_eq_false h.symm
    simp only [Bool.false_eq_true, if_false]
    show w.toNat / 2 ^ 31 = 0
    omega
theorem crcStep_msb (w : BitVec 32) : crcStep w = w <<< 1 ^^^ (if w.msb then 79764919#32 else 0#32) := by
  unfold crcStep
  rw [shr31]
  split <;> rfl
theorem crcStep_xor (a b : BitVec 32) : crcStep (a ^^^ b) = crcStep a ^^^ crcStep b := by
  simp only [crcStep_msb, BitVec.shiftLeft_xor_distrib, BitVec.msb_xor]
  cases a.msb <;> cases b.msb <;> simp only [Bool.xor_true, Bool.xor_false, Bool.not_true, Bool.not_false, if_true, if_false, Bool.false_eq_true, BitVec.xor_zero]
  · rw [BitVec.xor_assoc]
  · rw [BitVec.xor_assoc, BitVec.xor_assoc, BitVec.xor_comm (b <<< 1)]
  · rw [show a <<< 1 ^^^ 79764919#32 ^^^ (b <<< 1 ^^^ 79764919#32) = (a <<< 1 ^^^ b <<< 1) ^^^ (79764919#32 ^^^ 79764919#32) by ac_rfl, BitVec.xor_self, BitVec.xor_zero]
theorem crcSteps_xor (n : Nat) (a b : BitVec 32) : crcSteps n (a ^^^ b) = crcSteps n a ^^^ crcSteps n b := by
  induction n with
  | zero => rfl
  | succ n ih => rw [crcSteps, crcSteps, crcSteps, ih, crcStep_xor]
theorem ofNat_xor (a b : UInt8) : BitVec.ofNat 32 (a ^^^ b).toNat = BitVec.ofNat 32 a.toNat ^^^ BitVec.ofNat 32 b.toNat := by
  apply BitVec.eq_of_toNat_eq
  rw [BitVec.toNat_xor, BitVec.toNat_ofNat, BitVec.toNat_ofNat, BitVec.toNat_ofNat, UInt8.toNat_xor]
  have h1 := a.toNat_lt
  have h2 := b.toNat_lt
  have h3 : a.toNat ^^^ b.toNat < 2 ^ 8 := Nat.xor_lt_two_pow h1 h2
  rw [Nat.mod_eq_of_lt (by omega), Nat.mod_eq_of_lt (by omega), Nat.mod_eq_of_lt (by omega)]
theorem crcWord_xor (a b : UInt8) : crcWord (a ^^^ b).toNat = crcWord a.toNat ^^^ crcWord b.toNat := by
  unfold crcWord
  rw [ofNat_xor, BitVec.shiftLeft_xor_distrib, crcSteps_xor]
theorem low8_xor (a b : BitVec 32) : low8 (a ^^^ b) = low8 a ^^^ low8 b := by
  unfold low8
  rw [BitVec.setWidth_xor]
  rfl
theorem crcByte_xor (v w : BitVec 32) (c d : UInt8) : crcByte (v ^^^ w) (c ^^^ d) = crcByte v c ^^^ crcByte w d := by
  unfold crcByte
  rw [BitVec.shiftLeft_xor_distrib, BitVec.ushiftRight_xor_distrib, low8_xor,
    show low8 (v >>> 24) ^^^ low8 (w >>> 24) ^^^ (c ^^^ d) = (low8 (v >>> 24) ^^^ c) ^^^ (low8 (w >>> 24) ^^^ d) by ac_rfl, crcWord_xor]
  ac_rfl
theorem crcFold3 : ∀ (a b c : List UInt8) (u v w : BitVec 32), a.length = b.length → b.length = c.length →
    (List.zipWith (· ^^^ ·) (List.zipWith (· ^^^ ·) a b) c).foldl crcByte (u ^^^ v ^^^ w) = a.foldl crcByte u ^^^ b.foldl crcByte v ^^^ c.foldl crcByte w
  | [], [], [], u, v, w, _, _ => rfl
  | x :: a, y :: b, z :: c, u, v, w, h1, h2 => by
    simp only [List.zipWith_cons_cons, List.foldl_cons, crcByte_xor]
    exact crcFold3 a b c _ _ _ (by simpa using h1) (by simpa using h2)
  | [], y :: b, _, _, _, _, h, _ => by simp at h
  | x :: a, [], _, _, _, _, h, _ => by simp at h
  | [], [], z :: c, _, _, _, _, h => by simp at h
  | x :: a, y :: b, [], _, _, _, _, h => by simp at h
theorem not3 (a b c : BitVec 32) : ~~~(a ^^^ b ^^^ c) = ~~~a ^^^ ~~~b ^^^ ~~~c := by
  apply BitVec.eq_of_getLsbD_eq
  intro i hi
  simp only [BitVec.getLsbD_not, BitVec.getLsbD_xor, hi, decide_true, Bool.true_and]
  cases a.getLsbD i <;> cases b.getLsbD i <;> cases c.getLsbD i <;> rfl
theorem crcSum3 (a b c : List UInt8) (h1 : a.length = b.length) (h2 : b.length = c.length) : crcSum (List.zipWith (· ^^^ ·) (List.zipWith (· ^^^ ·) a b) c) = crcSum a ^^^ crcSum b ^^^ crcSum c := by
  unfold crcSum crcFold
  rw [← not3, ← crcFold3 a b c _ _ _ h1 h2]
  rfl
/-- Three of as many octets, exclusive-or. -/
def xor3 (a b c : List UInt8) : List UInt8 := List.zipWith (· ^^^ ·) (List.zipWith (· ^^^ ·) a b) c
theorem xor3_len (a b c : List UInt8) : (xor3 a b c).length = min (min a.length b.length) c.length := by simp [xor3]
theorem xor3_take (a b c : List UInt8) : ∀ n, (xor3 a b c).take n = xor3 (a.take n) (b.take n) (c.take n) := by
  intro n
  simp only [xor3, List.take_zipWith]
theorem xor3_sum (a b c : List UInt8) (n : Nat) (hn : n = min (min a.length b.length) c.length) : crcSum (a.take n) ^^^ crcSum (b.take n) ^^^ crcSum (c.take n) = crcSum (xor3 a b c) := by
  have : xor3 a b c = xor3 (a.take n) (b.take n) (c.take n) := by rw [← xor3_take, List.take_of_length_le (by rw [xor3_len]; omega)]
  rw [this, xor3, crcSum3]
  · simp; omega
  · simp; omega
theorem xor3_get (a b c : List UInt8) (i : Nat) (x y z : UInt8) (ha : a[i]? = some x) (hb : b[i]? = some y) (hc : c[i]? = some z) : (xor3 a b c).take (i + 1) = (xor3 a b c).take i ++ [x ^^^ y ^^^ z] := by
  rw [List.take_add_one]
  congr 1
  simp [xor3, List.getElem?_zipWith, ha, hb, hc]
/-! ### the sum of what is sealed is one and the same -/
theorem crcByte_top (w : BitVec 32) : crcByte w (low8 (w >>> 24)) = w <<< 8 := by
  unfold crcByte
  rw [UInt8.xor_self]
  rw [show crcWord (0 : UInt8).toNat = 0#32 by decide, BitVec.xor_zero]
theorem low8_not (w : BitVec 32) : low8 (~~~w) = low8 w ^^^ 255 := by
  have : ~~~w = w ^^^ BitVec.allOnes 32 := by rw [BitVec.xor_comm, BitVec.allOnes_xor]
  rw [this, low8_xor]
  rfl
theorem shr_not (w : BitVec 32) (k : Nat) (hk : k ≤ 24) : low8 ((~~~w) >>> k) = low8 (w >>> k) ^^^ 255 := by
  have h1 : ~~~w = w ^^^ BitVec.allOnes 32 := by rw [BitVec.xor_comm, BitVec.allOnes_xor]
  rw [h1, BitVec.ushiftRight_xor_distrib, low8_xor]
  congr 1
  have : ∀ k : Fin 25, low8 ((BitVec.allOnes 32) >>> k.val) = 255 := by decide
  exact this ⟨k, by omega⟩
theorem low8_shift (w : BitVec 32) (j k : Nat) (h : j + k = 24) : low8 ((w <<< j) >>> 24) = low8 (w >>> k) := by
  unfold low8
  congr 1
  apply BitVec.eq_of_getLsbD_eq
  intro i hi
  simp only [BitVec.getLsbD_setWidth, BitVec.getLsbD_ushiftRight, BitVec.getLsbD_shiftLeft]
  have e : 24 + i - j = k + i := by omega
  rw [e]
  have h1 : 24 + i < 32 := by omega
  have h2 : ¬ 24 + i < j := by omega
  simp [h1, h2]
/-- What remains of what is fed ahead. -/
def resid : Nat → BitVec 32
  | 0 => 0#32
  | n + 1 => crcByte (resid n) 255
theorem feed (w : BitVec 32) (j k : Nat) (n : Nat) (h : j + k = 24) : crcByte (w <<< j ^^^ resid n) (low8 (w >>> k) ^^^ 255) = w <<< (j + 8) ^^^ resid (n + 1) := by
  rw [crcByte_xor, ← low8_shift w j k h, crcByte_top, ← BitVec.shiftLeft_add, resid]
theorem seal_fold (b : List UInt8) : crcFold (sealD b) = resid 4 := by
  unfold sealD crcFold
  rw [List.foldl_append]
  show (sumD (~~~ crcFold b)).foldl crcByte (crcFold b) = _
  generalize crcFold b = w
  simp only [sumD, List.foldl_cons, List.foldl_nil]
  rw [show (~~~w) = (~~~w) >>> 0 from (BitVec.ushiftRight_zero _).symm]
  simp only [BitVec.ushiftRight_zero]
  rw [shr_not w 24 (by omega), shr_not w 16 (by omega), shr_not w 8 (by omega), low8_not]
  have f0 := feed w 0 24 0 rfl
  rw [BitVec.shiftLeft_zero, show w ^^^ resid 0 = w from BitVec.xor_zero] at f0
  rw [f0, feed w 8 16 1 rfl, feed w 16 8 2 rfl]
  have f3 := feed w 24 0 3 rfl
  rw [BitVec.ushiftRight_zero] at f3
  rw [f3, show w <<< (24 + 8) = 0#32 from BitVec.shiftLeft_eq_zero (by omega), BitVec.zero_xor]
theorem seal_sum (b : List UInt8) : crcSum (sealD b) = ~~~ resid 4 := by
  unfold crcSum; rw [seal_fold]
/-! ### bit by bit -/
theorem u32_mulcr (b : BitVec 32) (c : Nat) (hc : c < 4294967296) : IntKind.u32.wrap ((b.toNat : Int) * (c : Int)) = ((b * BitVec.ofNat 32 c).toNat : Int) := by
  rw [Int.mul_comm, u32_mulc c hc, BitVec.mul_comm]
theorem mul_pow (b : BitVec 32) (c k : Nat) (hc : c % 2 ^ 32 = 2 ^ k) : b * BitVec.ofNat 32 c = b <<< k := by
  apply BitVec.eq_of_toNat_eq
  rw [BitVec.toNat_mul, BitVec.toNat_shiftLeft, Nat.shiftLeft_eq, BitVec.toNat_ofNat, hc]
theorem u32_mul24 (b : BitVec 32) : IntKind.u32.wrap ((b.toNat : Int) * 16777216) = ((b <<< 24).toNat : Int) := by
  have := u32_mulcr b 16777216 (by decide)
  rw [mul_pow b 16777216 24 (by decide)] at this
  exact this
theorem u32_mul2 (b : BitVec 32) : IntKind.u32.wrap ((b.toNat : Int) * 2) = ((b <<< 1).toNat : Int) := by
  have := u32_mulcr b 2 (by decide)
  rw [mul_pow b 2 1 (by decide)] at this
  exact this
theorem u32_msb (w : BitVec 32) : decide ((w.toNat : Int) ≥ 2147483648) = w.msb := by
  rw [BitVec.msb_eq_decide]
  congr 1
  apply propext
  show (2147483648 : Int) ≤ w.toNat ↔ 2147483648 ≤ w.toNat
  omega
theorem u32_suball (w : BitVec 32) : IntKind.u32.wrap (4294967295 - (w.toNat : Int)) = ((~~~w).toNat : Int) := by
  have h := w.isLt
  rw [wrap_u32_id (by omega) (by omega), BitVec.toNat_not]
  omega
theorem u32_xorc (w : BitVec 32) : bitsD .xor .u32 (w.toNat : Int) 79764919 = ((w ^^^ 79764919#32).toNat : Int) := u32_xor w 79764919#32
def refByte (w : BitVec 32) (c : UInt8) : BitVec 32 := crcSteps 8 (w ^^^ (c.toBitVec.setWidth 32) <<< 24)
theorem steps_low (v : BitVec 32) : ∀ n, n ≤ 8 → v.toNat < 2 ^ 24 → crcSteps n v = v <<< n
  | 0, _, _ => (BitVec.shiftLeft_zero v).symm
  | n + 1, hn, hv => by
    rw [crcSteps, steps_low v n (by omega) hv, crcStep_msb]
    have hm : (v <<< n).msb = false := by
      rw [BitVec.msb_eq_decide]
      have h1 : (v <<< n).toNat < 2 ^ 31 := by
        rw [BitVec.toNat_shiftLeft, Nat.shiftLeft_eq]
        have h2 : v.toNat * 2 ^ n < 2 ^ 24 * 2 ^ 7 := by
          have h3 : 2 ^ n ≤ 2 ^ 7 := Nat.pow_le_pow_right (by omega) (by omega)
          calc v.toNat * 2 ^ n ≤ v.toNat * 2 ^ 7 := Nat.mul_le_mul_left _ h3
            _ < 2 ^ 24 * 2 ^ 7 := Nat.mul_lt_mul_of_pos_right hv (by decide)
        exact Nat.lt_of_le_of_lt (Nat.mod_le _ _) h2
      exact decide_eq_false (by omega)
    rw [hm, ← BitVec.shiftLeft_add]
    simp
theorem refByte_eq (w : BitVec 32) (c : UInt8) : refByte w c = crcByte w c := by
  have hsplit : w = (w >>> 24) <<< 24 ^^^ (w <<< 8) >>> 8 := by
    apply BitVec.eq_of_getLsbD_eq
    intro i hi
    simp only [BitVec.getLsbD_xor, BitVec.getLsbD_shiftLeft, BitVec.getLsbD_ushiftRight]
    by_cases h : i < 24
    · have h1 : 8 + i < 32 := by omega
      have h2 : ¬ 8 + i < 8 := by omega
      have h3 : 8 + i - 8 = i := by omega
      simp [h, h1, h2, h3]
    · have h1 : ¬ 8 + i < 32 := by omega
      have h3 : 24 + (i - 24) = i := by omega
      simp [h, h1, h3, hi]
  have hlow : ((w <<< 8) >>> 8).toNat < 2 ^ 24 := by
    rw [BitVec.toNat_ushiftRight, Nat.shiftRight_eq_div_pow]
    have := (w <<< 8).isLt
    omega
  have e1 : w >>> 24 = BitVec.ofNat 32 (low8 (w >>> 24)).toNat := by
    apply BitVec.eq_of_toNat_eq
    rw [BitVec.toNat_ofNat]
    show _ = ((w >>> 24).setWidth 8).toNat % 2 ^ 32
    rw [BitVec.toNat_setWidth, BitVec.toNat_ushiftRight, Nat.shiftRight_eq_div_pow]
    have := w.isLt
    omega
  have e2 : c.toBitVec.setWidth 32 = BitVec.ofNat 32 c.toNat := by
    apply BitVec.eq_of_toNat_eq
    rw [BitVec.toNat_ofNat, BitVec.toNat_setWidth]
    rfl
  have htop : (w >>> 24) <<< 24 ^^^ (c.toBitVec.setWidth 32) <<< 24 = BitVec.ofNat 32 (low8 (w >>> 24) ^^^ c).toNat <<< 24 := by
    rw [← BitVec.shiftLeft_xor_distrib, ofNat_xor, ← e1, ← e2]
  have e3 : ((w <<< 8) >>> 8) <<< 8 = w <<< 8 := by
    apply BitVec.eq_of_toNat_eq
    simp only [BitVec.toNat_shiftLeft, BitVec.toNat_ushiftRight, Nat.shiftLeft_eq, Nat.shiftRight_eq_div_pow]
    omega
  have e4 : w ^^^ (c.toBitVec.setWidth 32) <<< 24 = BitVec.ofNat 32 (low8 (w >>> 24) ^^^ c).toNat <<< 24 ^^^ (w <<< 8) >>> 8 := by
    rw [← htop]
    conv => lhs; rw [hsplit]
    rw [BitVec.xor_assoc, BitVec.xor_comm ((w <<< 8) >>> 8), ← BitVec.xor_assoc]
  unfold refByte crcByte
  rw [e4, crcSteps_xor, steps_low _ 8 (by omega) hlow, e3, BitVec.xor_comm]
  rfl
theorem refFold_eq (l : List UInt8) (w : BitVec 32) : l.foldl refByte w = l.foldl crcByte w := by
  induction l generalizing w with
  | nil => rfl
  | cons c l ih => simp only [List.foldl_cons, refByte_eq, ih]
theorem ref_step (w : BitVec 32) : crcStep w = if w.msb then w <<< 1 ^^^ 79764919#32 else w <<< 1 := by
  rw [crcStep_msb]; split <;> simp
theorem low8_nat (w : BitVec 32) : (low8 w).toNat = w.toNat % 256 := by
  show (w.setWidth 8).toNat = _
  rw [BitVec.toNat_setWidth]
theorem q24 (w : BitVec 32) : IntKind.u8.wrap (IntKind.u32.wrap ((w.toNat : Int).tdiv 16777216)) = ((low8 (w >>> 24)).toNat : Int) := by
  have := w.isLt
  rw [low8_nat, BitVec.toNat_ushiftRight, Nat.shiftRight_eq_div_pow, Int.tdiv_eq_ediv_of_nonneg (by omega), wrap_u32_id (by omega) (by omega), IntKind.wrap_u8']
  omega
theorem q16 (w : BitVec 32) : IntKind.u8.wrap ((IntKind.u32.wrap ((w.toNat : Int).tdiv 65536)).tmod 256) = ((low8 (w >>> 16)).toNat : Int) := by
  have := w.isLt
  rw [low8_nat, BitVec.toNat_ushiftRight, Nat.shiftRight_eq_div_pow, Int.tdiv_eq_ediv_of_nonneg (by omega), wrap_u32_id (by omega) (by omega), Int.tmod_eq_emod_of_nonneg (by omega), IntKind.wrap_u8']
  omega
theorem q8 (w : BitVec 32) : IntKind.u8.wrap ((IntKind.u32.wrap ((w.toNat : Int).tdiv 256)).tmod 256) = ((low8 (w >>> 8)).toNat : Int) := by
  have := w.isLt
  rw [low8_nat, BitVec.toNat_ushiftRight, Nat.shiftRight_eq_div_pow, Int.tdiv_eq_ediv_of_nonneg (by omega), wrap_u32_id (by omega) (by omega), Int.tmod_eq_emod_of_nonneg (by omega), IntKind.wrap_u8']
  omega
theorem q0 (w : BitVec 32) : IntKind.u8.wrap ((w.toNat : Int).tmod 256) = ((low8 w).toNat : Int) := by
  have := w.isLt
  rw [low8_nat, Int.tmod_eq_emod_of_nonneg (by omega), IntKind.wrap_u8']
  omega
theorem openD_iff (s : List UInt8) (h : ¬ s.length < 4) : sealD (s.take (s.length - 4)) = s ↔ s.drop (s.length - 4) = sumD (crcSum (s.take (s.length - 4))) := by
  unfold sealD
  constructor
  · intro e
    have := congrArg (List.drop (s.length - 4)) e
    rw [List.drop_append_of_le_length (by simp), List.drop_of_length_le (by simp)] at this
    simpa using this.symm
  · intro e
    rw [← e, List.take_append_drop]
theorem crc_example : crcSum [49, 50, 51, 52, 53, 54, 55, 56, 57] = 4236843288#32 := by decide
end Go.Val
