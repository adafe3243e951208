/- Chapter 07, which super counts, walked. -/
import Derived.Test.YtpeleigbmboceaaC07e
import Derived.Test.YtpeleigbmboceaaVM5
namespace Go.Val.Ytpeleigbmboceaa
open Go Go.Val Go.Proofs Go.Proofs.Ytpeleigbmboceaa
attribute [local irreducible] Ev EvD EvC thenQ blockQ RoundG RetQ
set_option maxRecDepth 100000
set_option maxHeartbeats 4000000
set_option linter.unusedSimpArgs false
set_option linter.unusedVariables false





theorem sec10 (b : List UInt8) (h : b.length = 64) : IntKind.i64.wrap ((b.getD 10 0).toNat : Int) = (numN ((b.take 11).drop 10) : Int) := by
  have e : (b.take 11).drop 10 = [b.getD 10 0] := by
    rw [List.drop_take, List.drop_eq_getElem_cons (by omega), List.getD_eq_getElem?_getD, List.getElem?_eq_getElem (by omega)]
    rfl
  rw [e, wrap_i64_id (by omega) (by have := (b.getD 10 0).toNat_lt; omega)]
  simp [numN]
def s1 (a : List UInt8) : Option (List UInt8) := if decE a = 0 ∧ decV a 4 10 % 2 = 0 then some a else none
def selV (o : Option (List UInt8)) (i j : Nat) : Int := match o with | some x => decV x i j | none => 0
def s2 (a b : List UInt8) : Option (List UInt8) := if decE b = 0 ∧ decV b 4 10 % 2 = 1 ∧ selV (s1 a) 4 10 < decV b 4 10 then some b else s1 a
def selC (o : Option (List UInt8)) : List DV := [.int .i64 (selV o 4 10), .int .i64 (selV o 10 11), .int .i64 (selV o 11 17), .int .i64 (selV o 17 19)]
theorem decV_nn (b : List UInt8) (i j : Nat) : 0 ≤ decV b i j := by unfold decV; split <;> omega
theorem dec_gen (b : List UInt8) (h : decE b = 0) : 1 ≤ decV b 4 10 := by
  have hg : secG b := by
    unfold decE at h
    split at h
    · cases h
    · split at h
      · cases h
      · split at h
        · assumption
        · cases h
  have := hg.1
  simp only [decV, h, if_true]
  omega
theorem tmod2 {x : Int} (h : 0 ≤ x) : Int.tmod x 2 = x % 2 := Int.tmod_eq_emod_of_nonneg h
def sN (a b : List UInt8) : Nat → Option (List UInt8) := fun i => if i = 0 then none else if i = 1 then s1 a else s2 a b
theorem s2_gen (a b : List UInt8) : s2 a b = none ∨ ∃ x, s2 a b = some x ∧ 1 ≤ decV x 4 10 := by
  unfold s2
  split
  · rename_i h; exact .inr ⟨b, rfl, dec_gen b h.1⟩
  · unfold s1
    split
    · rename_i h; exact .inr ⟨a, rfl, dec_gen a h.1⟩
    · exact .inl rfl
end Go.Val.Ytpeleigbmboceaa
