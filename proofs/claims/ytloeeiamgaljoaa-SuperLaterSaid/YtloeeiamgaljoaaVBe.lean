/- Numbers as octets, the highest first; octets' number. -/
import Derived.Test.YtloeeiamgaljoaaVGo3
namespace Go.Val
open Go.RowKit
set_option linter.unusedSimpArgs false
set_option linter.unusedVariables false

def beN (w n : Nat) : List UInt8 := (List.range w).map fun k => UInt8.ofNat (n / 256 ^ (w - 1 - k))
def numN (l : List UInt8) : Nat := l.foldl (fun a b => 256 * a + b.toNat) 0
theorem beN_len (w n : Nat) : (beN w n).length = w := by simp [beN]
theorem beN_get (w n k : Nat) (h : k < w) : (beN w n)[k]? = some (UInt8.ofNat (n / 256 ^ (w - 1 - k))) := by simp [beN, h]
theorem beN_take_succ (w n k : Nat) (h : k < w) : (beN w n).take (k + 1) = (beN w n).take k ++ [UInt8.ofNat (n / 256 ^ (w - 1 - k))] := by
  rw [List.take_add_one, beN_get w n k h]; rfl
theorem beN_zero (n : Nat) : beN 0 n = [] := rfl
theorem beN_front (w n : Nat) : beN (w + 1) n = UInt8.ofNat (n / 256 ^ w) :: beN w n := by
  unfold beN
  rw [List.range_succ_eq_map, List.map_cons, List.map_map]
  congr 1
  apply List.map_congr_left
  intro k hk
  have := List.mem_range.1 hk
  simp only [Function.comp]
  congr 3
  omega
theorem beN_back (w n : Nat) : beN (w + 1) n = beN w (n / 256) ++ [UInt8.ofNat n] := by
  unfold beN
  rw [List.range_succ, List.map_append]
  congr 1
  · apply List.map_congr_left
    intro k hk
    have := List.mem_range.1 hk
    rw [Nat.div_div_eq_div_mul]
    congr 2
    rw [show w + 1 - 1 - k = (w - 1 - k) + 1 by omega, Nat.pow_succ, Nat.mul_comm]
  · simp
theorem numN_nil : numN [] = 0 := rfl
theorem numN_snoc (l : List UInt8) (b : UInt8) : numN (l ++ [b]) = 256 * numN l + b.toNat := by simp [numN]
theorem snoc_ind {α : Type} {p : List α → Prop} (h0 : p []) (h1 : ∀ l a, p l → p (l ++ [a])) : ∀ l, p l := by
  intro l
  rw [← List.reverse_reverse l]
  induction l.reverse with
  | nil => exact h0
  | cons a m ih => rw [List.reverse_cons]; exact h1 _ _ ih
theorem numN_lt (l : List UInt8) : numN l < 256 ^ l.length := by
  induction l using snoc_ind with
  | h0 => simp [numN]
  | h1 l b ih =>
    rw [numN_snoc, List.length_append, List.length_singleton, Nat.pow_succ]
    have := b.toNat_lt
    omega
theorem numN_le {l : List UInt8} {k m : Nat} (h : l.length ≤ k) (hm : 256 ^ k ≤ m := by decide) : numN l < m :=
  Nat.lt_of_lt_of_le (numN_lt l) (Nat.le_trans (Nat.pow_le_pow_right (by decide) h) hm)
theorem numN_take {l : List UInt8} {i : Nat} {c : UInt8} (h : l[i]? = some c) : numN (l.take (i + 1)) = 256 * numN (l.take i) + c.toNat := by
  rw [List.take_add_one, h]; exact numN_snoc _ _
theorem numN_beN (w n : Nat) : numN (beN w n) = n % 256 ^ w := by
  induction w generalizing n with
  | zero => simp [beN_zero, numN_nil, Nat.mod_one]
  | succ w ih =>
    rw [beN_back, numN_snoc, ih, Nat.pow_succ, Nat.mul_comm (256 ^ w) 256, Nat.mod_mul]
    simp only [UInt8.toNat_ofNat']
    omega
theorem beN_numN (l : List UInt8) : beN l.length (numN l) = l := by
  induction l using snoc_ind with
  | h0 => rfl
  | h1 l b ih =>
    rw [List.length_append, List.length_singleton, beN_back, numN_snoc]
    have := b.toNat_lt
    rw [show (256 * numN l + b.toNat) / 256 = numN l by omega, ih]
    congr 2
    apply UInt8.toNat.inj
    simp only [UInt8.toNat_ofNat']
    omega
theorem beN_inj {w n m : Nat} (hn : n < 256 ^ w) (hm : m < 256 ^ w) (h : beN w n = beN w m) : n = m := by
  have := congrArg numN h
  rwa [numN_beN, numN_beN, Nat.mod_eq_of_lt hn, Nat.mod_eq_of_lt hm] at this
theorem numN_inj {l m : List UInt8} (hl : l.length = m.length) (h : numN l = numN m) : l = m := by
  rw [← beN_numN l, ← beN_numN m, h, hl]

theorem or_i64 {a c : Nat} (h : a < 36028797018963968) (hc : c < 256) : bitsD .or .i64 ((256 * a : Nat) : Int) (c : Int) = ((256 * a + c : Nat) : Int) := by
  have e : 256 * a + c = (256 * a) ||| c := by
    have := Nat.shiftLeft_add_eq_or_of_lt (b := c) (i := 8) (by omega) a
    rw [Nat.shiftLeft_eq] at this
    rw [Nat.mul_comm] at this
    exact this
  show IntKind.i64.wrap (((BitVec.ofInt 64 ((256 * a : Nat) : Int) ||| BitVec.ofInt 64 (c : Int)) : BitVec 64).toNat : Int) = _
  have h1 : BitVec.ofInt 64 ((256 * a : Nat) : Int) = BitVec.ofNat 64 (256 * a) := BitVec.ofInt_natCast ..
  have h2 : BitVec.ofInt 64 ((c : Nat) : Int) = BitVec.ofNat 64 c := BitVec.ofInt_natCast ..
  rw [h1, h2, BitVec.toNat_or, BitVec.toNat_ofNat, BitVec.toNat_ofNat, Nat.mod_eq_of_lt (by omega), Nat.mod_eq_of_lt (by omega), ← e]
  exact wrap_i64_id (by omega) (by omega)
theorem u8_nat (n : Nat) : IntKind.u8.wrap (n : Int) = ((UInt8.ofNat n).toNat : Int) := by
  rw [IntKind.wrap_u8', UInt8.toNat_ofNat']; omega
theorem fdiv_nat (a b : Nat) : Int.fdiv (a : Int) (b : Int) = ((a / b : Nat) : Int) := by
  rw [Int.fdiv_eq_ediv_of_nonneg _ (by omega)]; rfl
theorem tmod256 (m : Nat) : Int.tmod (m : Int) 256 = ((m % 256 : Nat) : Int) := tmod_nat m 256
theorem tdiv256 (m : Nat) : Int.tdiv (m : Int) 256 = ((m / 256 : Nat) : Int) := tdiv_nat m 256
theorem set_same {α : Type} {l : List α} {i : Nat} {x : α} (h : l[i]? = some x) : l.set i x = l := by
  obtain ⟨hl, rfl⟩ := List.getElem?_eq_some_iff.1 h
  exact List.set_getElem_self hl
theorem ofNat_mod (m : Nat) : UInt8.ofNat (m % 256) = UInt8.ofNat m := by
  apply UInt8.toNat.inj; simp only [UInt8.toNat_ofNat']; omega
theorem or8 {x c : Int} (h0 : 0 ≤ x) (h1 : x < 36028797018963968) (h2 : 0 ≤ c) (h3 : c < 256) : bitsD .or .i64 (x * 2 ^ 8) c = 256 * x + c := by
  have := or_i64 (a := x.toNat) (c := c.toNat) (by omega) (by omega)
  rw [show ((256 * x.toNat : Nat) : Int) = x * 2 ^ 8 by omega, show ((c.toNat : Nat) : Int) = c by omega] at this
  rw [this]; omega
theorem bytes_nil : bytes [] = [] := rfl
theorem shr_byte {n k : Nat} {x : Int} (hx : x = k) (hk : k ≤ 8) : IntKind.u8.wrap ((n : Int).fdiv (2 ^ (if (8 * x).toNat ≤ 64 then (8 * x).toNat else 64))) = ((UInt8.ofNat (n / 256 ^ k)).toNat : Int) := by
  subst hx
  have e : (8 * (k : Int)).toNat = 8 * k := by omega
  rw [e, if_pos (by omega), show ((2 : Int) ^ (8 * k)) = ((256 ^ k : Nat) : Int) by rw [Int.pow_mul, Int.natCast_pow]; rfl, fdiv_nat, u8_nat]
theorem Grew_refl (σ : Store) : Grew σ σ := ⟨⟨[], (List.append_nil _).symm⟩, ⟨[], (List.append_nil _).symm⟩, ⟨[], (List.append_nil _).symm⟩⟩
theorem byte_lit (n : Nat) (h : n < 256) : (DV.int .u8 (n : Int)) = .int .u8 ((UInt8.ofNat n).toNat : Int) := by
  rw [UInt8.toNat_ofNat', Nat.mod_eq_of_lt (by omega)]
attribute [go_sem] beN_len
end Go.Val
