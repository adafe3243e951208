/- What is proved: the statement 'WalScans' of the seat: for every input the law answers true, and what was handed in reads as it did. Its walk is in YtlfnmgmbmgacgaaY06h. -/
import Derived.Test.YtlfnmgmbmgacgaaRows
import Derived.Test.YtlfnmgmbmgacgaaY06h
import Derived.Test.YtlfnmgmbmgacgaaVMR
import Derived.WalkKit
import Derived.ProofKit
import Derived.OpenShut
import Derived.ShutString
import Derived.ChangeOld
import Derived.Below
import Derived.SizedLaws
namespace Go.Proofs.Ytlfnmgmbmgacgaa.walScans
open Go.ChangeShapes Go.WideShapes Go.ChangeAt Go.RowKit
open Go.ChangeMaps (open_string shut_string)
set_option linter.unusedVariables false
theorem own : ownKnob Try.prog.godebug = none := by kernel_rfl
theorem laidOut : laidOutB Try.prog = true := by kernel_rfl
set_option maxRecDepth 100000 in
theorem lifted (os : Os) (started : os.Started) (H : Type) (enc : TypeId × Value → H) :
  ReturnsInHanded {} Try.checked os 5 .any (Rows.walScansSpec.pre6 enc Try.prog Try.f5 Rows.walScansRow.domain false) (Rows.walScansSpec.post enc Try.prog Try.f5 false true false false) := by
 refine returnsInHanded_of_change_sized (C := Try.checked) own started (by kernel_rfl) Try.func5
  (ChangeSpec.witness6 (enc := enc) (C := Try.checked) false ⟨#[], #[(.agg #[.slice none 0 0, .slice none 0 0, .int .i64 0, .bool false, .int .i64 0, .int .i64 0, .int .i64 0, .int .i64 0, .slice none 0 0, .int .i64 0])], []⟩ 8 (by kernel_rfl) (by kernel_rfl) (by kernel_rfl) (by kernel_rfl)) ?_
 intro W base args ds gs before hval0 hW hcnd hsz0 _
 have hsz : (DataW.weightsEach Try.prog (Try.f5.params.toList ++ Rows.walScansSpec.plain.varTypes Try.prog) (ds ++ gs)).all (· ≤ reachBytes) = true := hsz0
 have hval : ∀ (j : Nat) t v, Try.f5.params[j]? = some t → args[j]? = some v → Value.okWide Try.prog W .any base t v := hval0
 have hW' := hW
 obtain ⟨p, q, hA0, hV, rfl, hfz, hnd⟩ := hW
 have hA : DataW.TrodAll enc Try.prog W 0 (fun _ => true) true Try.f5.params.toList args.toList ds p := hA0
 rw [Try.params5] at hA hval hsz
 obtain ⟨v0, vs0, d0, ds0, p0, q0, hargs, rfl, rfl, h0, r0⟩ := trodAll_cons hA
 obtain ⟨rfl, rfl, rfl⟩ := trodAll_nil r0
 obtain rfl : args = #[v0] := by cases args; simp_all
 obtain ⟨rfl, rfl⟩ := trodVars_none hV
 have hw0 : ∀ n ∈ d0.weights Try.prog 30, n ≤ reachBytes := fun n hn => by
  have := List.all_eq_true.1 hsz _ (DataW.weights_mem_each (j := 0) rfl rfl n hn)
  simpa using this
 obtain ⟨c0, rfl, _⟩ := okWide_struct Try.underlying30 (hval 0 30 v0 rfl rfl)
 have k0 := h0
 have lt0 : ∀ x ∈ p0, x.block < W.heap.size := by obtain ⟨m, hm⟩ := k0; exact DataW.trod_lt m _ _ _ hm
 obtain ⟨u0, wf0, e0⟩ := Go.Val.ReadsT.one (Go.Val.ReadsT.struct4 Try.underlying30 rfl (Go.Val.ReadsT.struct4 Try.underlying25 rfl (Go.Val.ReadsT.slice Try.underlying22 (of_decide_eq_true (by kernel_rfl)) (Go.Val.ReadsT.slice Try.underlying28 (of_decide_eq_true (by kernel_rfl)) (Go.Val.ReadsT.byte Try.underlying5))) (Go.Val.ReadsT.slice Try.underlying23 (of_decide_eq_true (by kernel_rfl)) (Go.Val.ReadsT.struct2 Try.underlying66 rfl (Go.Val.ReadsT.int Try.underlying3) (Go.Val.ReadsT.slice Try.underlying28 (of_decide_eq_true (by kernel_rfl)) (Go.Val.ReadsT.byte Try.underlying5)) (by kernel_rfl) (by kernel_rfl) (by kernel_rfl))) (Go.Val.ReadsT.int Try.underlying3) (Go.Val.ReadsT.bool Try.underlying4) (by kernel_rfl) (by kernel_rfl) (by kernel_rfl) (by kernel_rfl) (by kernel_rfl)) (Go.Val.ReadsT.struct4 Try.underlying27 rfl (Go.Val.ReadsT.int Try.underlying3) (Go.Val.ReadsT.int Try.underlying3) (Go.Val.ReadsT.int Try.underlying3) (Go.Val.ReadsT.int Try.underlying3) (by kernel_rfl) (by kernel_rfl) (by kernel_rfl) (by kernel_rfl) (by kernel_rfl)) (Go.Val.ReadsT.slice Try.underlying28 (of_decide_eq_true (by kernel_rfl)) (Go.Val.ReadsT.byte Try.underlying5)) (Go.Val.ReadsT.int Try.underlying3) (by kernel_rfl) (by kernel_rfl) (by kernel_rfl) (by kernel_rfl) (by kernel_rfl)) h0 (fun a => .inl ⟨_, rfl, _, rfl⟩) hw0
 clear hA0 hval0 hsz0 hsz
 refine (Go.Val.call_true (Go.Val.Ytlfnmgmbmgacgaa.c_bursarlaw06_WalScans u0.1.1 u0.1.2.1 u0.1.2.2.1 u0.1.2.2.2 u0.2.1.1 u0.2.1.2.1 u0.2.1.2.2.1 u0.2.1.2.2.2 u0.2.2.1 u0.2.2.2 ⟨⟨fun b hb => by have h := (wf0.1.1.1 b hb).2; rw [show Try.prog.bytesOf 5 = 1 from by kernel_rfl, Nat.mul_one] at h; exact Nat.le_trans h (by decide), fun q hq => by have h := ((wf0.1.2.1.1 q hq).2).2; rw [show Try.prog.bytesOf 5 = 1 from by kernel_rfl, Nat.mul_one] at h; exact Nat.le_trans h (by decide)⟩, by have h := bounds_i64 wf0.1.2.2.1; omega, by have h := bounds_i64 wf0.2.1.2.1; omega⟩) (Go.Val.relL_cons e0 Go.Val.relL_nil)).mono fun e W' ⟨he, bel⟩ => ?_
 subst he
 exact ⟨_, rfl, _, _, _, [], _, [], hW', trodAll_mk1 (shut_bool Try.underlying4 _), (trodAll_cons_mk (Below.trod laidOut (by kernel_rfl) (of_decide_eq_true (by kernel_rfl)) k0 bel lt0) trodAll_mk0), rfl, bel.frame _, fun h => by cases h⟩
theorem over : Rows.walScansRow.holds Try.pinned (OpenSpec.ofChange Rows.walScansSpec) :=
 OpenClaim.holds_of_wide 5 Try.f5 rfl rfl rfl rfl rfl rfl rfl ⟨rfl, rfl, rfl, rfl, rfl⟩ rfl rfl rfl rfl rfl (by kernel_rfl) Try.func5 (by kernel_rfl)
  (of_decide_eq_true (by kernel_rfl)) (by unfold Func.isWrapper; first | (rw [if_pos (by decide +kernel)]; kernel_rfl) | (rw [if_neg (by decide +kernel)]; exact ⟨rfl, rfl⟩))
  (fun os started H enc _ => lifted os started H enc)
theorem proved : Rows.WalScansSaid := over
end Go.Proofs.Ytlfnmgmbmgacgaa.walScans
namespace Go.Proofs.Ytlfnmgmbmgacgaa
theorem walScans_holds : Rows.WalScansSaid := walScans.proved
end Go.Proofs.Ytlfnmgmbmgacgaa
