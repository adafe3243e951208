/- What is proved: the statement 'DiskKeeps' of the seat: for every input the law answers true, and what was handed in reads as it did. Its walk is in YtkmhdefcflidhaaD04o. -/
import Derived.Test.YtkmhdefcflidhaaRows
import Derived.Test.YtkmhdefcflidhaaD04o
import Derived.Test.YtkmhdefcflidhaaVRow
import Derived.Test.YtkmhdefcflidhaaVRead3
import Derived.WalkKit
import Derived.ProofKit
import Derived.OpenShut
import Derived.ShutString
import Derived.ChangeOld
import Derived.Below
import Derived.SizedLaws
namespace Go.Proofs.Ytkmhdefcflidhaa.diskKeeps
open Go.ChangeShapes Go.WideShapes Go.ChangeAt Go.RowKit
open Go.ChangeMaps (open_string shut_string)
set_option linter.unusedVariables false
theorem own : ownKnob Try.prog.godebug = none := by kernel_rfl
theorem laidOut : laidOutB Try.prog = true := by kernel_rfl
set_option maxRecDepth 100000 in
theorem lifted (os : Os) (started : os.Started) (H : Type) (enc : TypeId × Value → H) :
    ReturnsInHanded {} Try.checked os 4 .any (Rows.diskKeepsSpec.pre6 enc Try.prog Try.f4 Rows.diskKeepsRow.domain false) (Rows.diskKeepsSpec.post enc Try.prog Try.f4 false true false false) := by
  refine returnsInHanded_of_change_sized (C := Try.checked) own started (by kernel_rfl) Try.func4
    (ChangeSpec.witness6 (enc := enc) (C := Try.checked) false ⟨#[], #[.slice none 0 0, .slice none 0 0, .slice none 0 0], []⟩ 8 (by kernel_rfl) (by kernel_rfl) (by kernel_rfl) (by kernel_rfl)) ?_
  intro W base args ds gs before hval0 hW hcnd hsz0 _
  have hsz : (DataW.weightsEach Try.prog (Try.f4.params.toList ++ Rows.diskKeepsSpec.plain.varTypes Try.prog) (ds ++ gs)).all (· ≤ reachBytes) = true := hsz0
  have hval : ∀ (j : Nat) t v, Try.f4.params[j]? = some t → args[j]? = some v → Value.okWide Try.prog W .any base t v := hval0
  have hW' := hW
  obtain ⟨p, q, hA0, hV, rfl, hfz, hnd⟩ := hW
  have hA : DataW.TrodAll enc Try.prog W 0 (fun _ => true) true Try.f4.params.toList args.toList ds p := hA0
  rw [Try.params4] at hA hval hsz
  obtain ⟨v0, vs0, d0, ds0, p0, q0, hargs, rfl, rfl, h0, r0⟩ := trodAll_cons hA
  obtain ⟨v1, vs1, d1, ds1, p1, q1, rfl, rfl, rfl, h1, r1⟩ := trodAll_cons r0
  obtain ⟨v2, vs2, d2, ds2, p2, q2, rfl, rfl, rfl, h2, r2⟩ := trodAll_cons r1
  obtain ⟨rfl, rfl, rfl⟩ := trodAll_nil r2
  obtain rfl : args = #[v0, v1, v2] := by cases args; simp_all
  obtain ⟨rfl, rfl⟩ := trodVars_none hV
  have hw0 : ∀ n ∈ d0.weights Try.prog 23, n ≤ reachBytes := fun n hn => by
    have := List.all_eq_true.1 hsz _ (DataW.weights_mem_each (j := 0) rfl rfl n hn)
    simpa using this
  obtain ⟨a0, len0, cap0, rfl⟩ := okWide_slice Try.underlying23 (hval 0 23 v0 rfl rfl)
  have k0 := h0
  have lt0 : ∀ x ∈ p0, x.block < W.heap.size := by obtain ⟨m, hm⟩ := k0; exact DataW.trod_lt m _ _ _ hm
  obtain ⟨u0, wf0, e0⟩ := Go.Val.ReadsT.one (Go.Val.ReadsT.slice Try.underlying23 (of_decide_eq_true (by kernel_rfl)) (Go.Val.ReadsT.struct2 Try.underlying40 rfl (Go.Val.ReadsT.int Try.underlying3) (Go.Val.ReadsT.slice Try.underlying38 (of_decide_eq_true (by kernel_rfl)) (Go.Val.ReadsT.byte Try.underlying5)) (by kernel_rfl) (by kernel_rfl) (by kernel_rfl))) h0 (fun a => .inr ⟨rfl, rfl⟩) hw0
  have hw1 : ∀ n ∈ d1.weights Try.prog 23, n ≤ reachBytes := fun n hn => by
    have := List.all_eq_true.1 hsz _ (DataW.weights_mem_each (j := 1) rfl rfl n hn)
    simpa using this
  obtain ⟨a1, len1, cap1, rfl⟩ := okWide_slice Try.underlying23 (hval 1 23 v1 rfl rfl)
  have k1 := h1
  have lt1 : ∀ x ∈ p1, x.block < W.heap.size := by obtain ⟨m, hm⟩ := k1; exact DataW.trod_lt m _ _ _ hm
  obtain ⟨u1, wf1, e1⟩ := Go.Val.ReadsT.one (Go.Val.ReadsT.slice Try.underlying23 (of_decide_eq_true (by kernel_rfl)) (Go.Val.ReadsT.struct2 Try.underlying40 rfl (Go.Val.ReadsT.int Try.underlying3) (Go.Val.ReadsT.slice Try.underlying38 (of_decide_eq_true (by kernel_rfl)) (Go.Val.ReadsT.byte Try.underlying5)) (by kernel_rfl) (by kernel_rfl) (by kernel_rfl))) h1 (fun a => .inr ⟨rfl, rfl⟩) hw1
  have hw2 : ∀ n ∈ d2.weights Try.prog 26, n ≤ reachBytes := fun n hn => by
    have := List.all_eq_true.1 hsz _ (DataW.weights_mem_each (j := 2) rfl rfl n hn)
    simpa using this
  obtain ⟨a2, len2, cap2, rfl⟩ := okWide_slice Try.underlying26 (hval 2 26 v2 rfl rfl)
  have k2 := h2
  have lt2 : ∀ x ∈ p2, x.block < W.heap.size := by obtain ⟨m, hm⟩ := k2; exact DataW.trod_lt m _ _ _ hm
  obtain ⟨u2, wf2, e2⟩ := Go.Val.ReadsT.one (Go.Val.ReadsT.slice Try.underlying26 (of_decide_eq_true (by kernel_rfl)) (Go.Val.ReadsT.bool Try.underlying4)) h2 (fun a => .inr ⟨rfl, rfl⟩) hw2
  clear hA0 hval0 hsz0 hsz
  refine (Go.Val.call_true (Go.Val.Ytkmhdefcflidhaa.c_bursarlaw04_DiskKeeps u0 u1 u2 (by first | trivial | omega)) (Go.Val.relL_cons e0 (Go.Val.relL_cons e1 (Go.Val.relL_cons e2 Go.Val.relL_nil)))).mono fun e W' ⟨he, bel⟩ => ?_
  subst he
  exact ⟨_, rfl, _, _, _, [], _, [], hW', trodAll_mk1 (shut_bool Try.underlying4 _), (trodAll_cons_mk (Below.trod laidOut (by kernel_rfl) (of_decide_eq_true (by kernel_rfl)) k0 bel lt0) (trodAll_cons_mk (Below.trod laidOut (by kernel_rfl) (of_decide_eq_true (by kernel_rfl)) k1 bel lt1) (trodAll_cons_mk (Below.trod laidOut (by kernel_rfl) (of_decide_eq_true (by kernel_rfl)) k2 bel lt2) trodAll_mk0))), rfl, bel.frame _, fun h => by cases h⟩
theorem over : Rows.diskKeepsRow.holds Try.pinned (OpenSpec.ofChange Rows.diskKeepsSpec) :=
  OpenClaim.holds_of_wide 4 Try.f4 rfl rfl rfl rfl rfl rfl rfl ⟨rfl, rfl, rfl, rfl, rfl⟩ rfl rfl rfl rfl rfl (by kernel_rfl) Try.func4 (by kernel_rfl)
    (of_decide_eq_true (by kernel_rfl)) (by unfold Func.isWrapper; first | (rw [if_pos (by decide +kernel)]; kernel_rfl) | (rw [if_neg (by decide +kernel)]; exact ⟨rfl, rfl⟩))
    (fun os started H enc _ => lifted os started H enc)
theorem proved : Rows.DiskKeepsSaid := over
end Go.Proofs.Ytkmhdefcflidhaa.diskKeeps
namespace Go.Proofs.Ytkmhdefcflidhaa
/-- The row, under a short name, for the claim. -/
theorem diskKeeps_holds : Rows.DiskKeepsSaid := diskKeeps.proved
end Go.Proofs.Ytkmhdefcflidhaa
