/- Chapter 07, sectors read, walked. -/
import Derived.Test.YtpeleigbmboceaaC07d
namespace Go.Val.Ytpeleigbmboceaa
open Go Go.Val Go.Proofs Go.Proofs.Ytpeleigbmboceaa
attribute [local irreducible] Ev EvD EvC thenQ blockQ RoundG RetQ
set_option maxRecDepth 100000
set_option maxHeartbeats 4000000
set_option linter.unusedSimpArgs false
set_option linter.unusedVariables false




/-- What a sector says. -/
def secV (b : List UInt8) (i j : Nat) : Nat := numN ((b.take j).drop i)
def secG (b : List UInt8) : Prop := maySP (secV b 4 10) (secV b 10 11) (secV b 11 17) (secV b 17 19) ∧ superSec (secV b 4 10) (secV b 10 11) (secV b 11 17) (secV b 17 19) = b
instance (b : List UInt8) : Decidable (secG b) := by unfold secG; infer_instance
def decE (b : List UInt8) : Int := if b.length ≠ 64 then 3 else if (openD b).2 ≠ 0 then 6 else if secG b then 0 else 4
def decV (b : List UInt8) (i j : Nat) : Int := if decE b = 0 then secV b i j else 0
abbrev decS (b : List UInt8) : DV := superD (decV b 4 10) (decV b 10 11) (decV b 11 17) (decV b 17 19)
theorem open_cases (b : List UInt8) (h : b.length = 64) : openD b = ([], 6) ∨ openD b = (b.take 60, 0) := by
  unfold openD
  rw [if_neg (by omega)]
  split
  · right; rw [h]
  · left; rfl
end Go.Val.Ytpeleigbmboceaa
