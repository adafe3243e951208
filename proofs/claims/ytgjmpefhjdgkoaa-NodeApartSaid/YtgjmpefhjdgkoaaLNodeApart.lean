/- What is proved: the statement 'NodeApart' of the seat: for every input the law answers true, and what was handed in reads as it did. Its walk is in YtgjmpefhjdgkoaaN08r. -/
import Derived.Test.YtgjmpefhjdgkoaaRows
import Derived.Test.YtgjmpefhjdgkoaaN08r
import Derived.Test.YtgjmpefhjdgkoaaVMR
import Derived.WalkKit
import Derived.ProofKit
import Derived.OpenShut
import Derived.ShutString
import Derived.ChangeOld
import Derived.Below
import Derived.SizedLaws
namespace Go.Proofs.Ytgjmpefhjdgkoaa.nodeApart
open Go.ChangeShapes Go.WideShapes Go.ChangeAt Go.RowKit
open Go.ChangeMaps (open_string shut_string)
set_option linter.unusedVariables false
theorem own : ownKnob Try.prog.godebug = none := by kernel_rfl
theorem laidOut : laidOutB Try.prog = true := by kernel_rfl
set_option maxRecDepth 100000 in
theorem lifted (os : Os) (started : os.Started) (H : Type) (enc : TypeId × Value → H) :
  ReturnsInHanded {} Try.checked os 7 .any (Rows.nodeApartSpec.pre6 enc Try.prog Try.f7 Rows.nodeApartRow.domain false) (Rows.nodeApartSpec.post enc Try.prog Try.f7 false true false false) := by
 refine returnsInHanded_of_change_sized (C := Try.checked) own started (by kernel_rfl) Try.func7
  (ChangeSpec.witness6 (enc := enc) (C := Try.checked) false ⟨#[], #[(.agg #[.slice none 0 0, .slice none 0 0, .slice none 0 0]), (.agg #[.slice none 0 0, .slice none 0 0, .slice none 0 0])], []⟩ 8 (by kernel_rfl) (by kernel_rfl) (by kernel_rfl) (by kernel_rfl)) ?_
 intro W base args ds gs before hval0 hW hcnd hsz0 _
 have hsz : (DataW.weightsEach Try.prog (Try.f7.params.toList ++ Rows.nodeApartSpec.plain.varTypes Try.prog) (ds ++ gs)).all (· ≤ reachBytes) = true := hsz0
 have hval : ∀ (j : Nat) t v, Try.f7.params[j]? = some t → args[j]? = some v → Value.okWide Try.prog W .any base t v := hval0
 have hW' := hW
 obtain ⟨p, q, hA0, hV, rfl, hfz, hnd⟩ := hW
 have hA : DataW.TrodAll enc Try.prog W 0 (fun _ => true) true Try.f7.params.toList args.toList ds p := hA0
 rw [Try.params7] at hA hval hsz
 obtain ⟨v0, vs0, d0, ds0, p0, q0, hargs, rfl, rfl, h0, r0⟩ := trodAll_cons hA
 obtain ⟨v1, vs1, d1, ds1, p1, q1, rfl, rfl, rfl, h1, r1⟩ := trodAll_cons r0
 obtain ⟨rfl, rfl, rfl⟩ := trodAll_nil r1
 obtain rfl : args = #[v0, v1] := by cases args; simp_all
 obtain ⟨rfl, rfl⟩ := trodVars_none hV
 have hw0 : ∀ n ∈ d0.weights Try.prog 42, n ≤ reachBytes := fun n hn => by
  have := List.all_eq_true.1 hsz _ (DataW.weights_mem_each (j := 0) rfl rfl n hn)
  simpa using this
 obtain ⟨c0, rfl, _⟩ := okWide_struct Try.underlying42 (hval 0 42 v0 rfl rfl)
 have k0 := h0
 have lt0 : ∀ x ∈ p0, x.block < W.heap.size := by obtain ⟨m, hm⟩ := k0; exact DataW.trod_lt m _ _ _ hm
 obtain ⟨u0, wf0, e0⟩ := Go.Val.ReadsT.one (Go.Val.ReadsT.struct3 Try.underlying42 rfl (Go.Val.ReadsT.slice Try.underlying22 (of_decide_eq_true (by kernel_rfl)) (Go.Val.ReadsT.struct2 Try.underlying39 rfl (Go.Val.ReadsT.str Try.underlying9) (Go.Val.ReadsT.str Try.underlying9) (by kernel_rfl) (by kernel_rfl) (by kernel_rfl))) (Go.Val.ReadsT.slice Try.underlying40 (of_decide_eq_true (by kernel_rfl)) (Go.Val.ReadsT.str Try.underlying9)) (Go.Val.ReadsT.slice Try.underlying32 (of_decide_eq_true (by kernel_rfl)) (Go.Val.ReadsT.int Try.underlying3)) (by kernel_rfl) (by kernel_rfl) (by kernel_rfl) (by kernel_rfl)) h0 (fun a => .inl ⟨_, rfl, _, rfl⟩) hw0
 have hw1 : ∀ n ∈ d1.weights Try.prog 42, n ≤ reachBytes := fun n hn => by
  have := List.all_eq_true.1 hsz _ (DataW.weights_mem_each (j := 1) rfl rfl n hn)
  simpa using this
 obtain ⟨c1, rfl, _⟩ := okWide_struct Try.underlying42 (hval 1 42 v1 rfl rfl)
 have k1 := h1
 have lt1 : ∀ x ∈ p1, x.block < W.heap.size := by obtain ⟨m, hm⟩ := k1; exact DataW.trod_lt m _ _ _ hm
 obtain ⟨u1, wf1, e1⟩ := Go.Val.ReadsT.one (Go.Val.ReadsT.struct3 Try.underlying42 rfl (Go.Val.ReadsT.slice Try.underlying22 (of_decide_eq_true (by kernel_rfl)) (Go.Val.ReadsT.struct2 Try.underlying39 rfl (Go.Val.ReadsT.str Try.underlying9) (Go.Val.ReadsT.str Try.underlying9) (by kernel_rfl) (by kernel_rfl) (by kernel_rfl))) (Go.Val.ReadsT.slice Try.underlying40 (of_decide_eq_true (by kernel_rfl)) (Go.Val.ReadsT.str Try.underlying9)) (Go.Val.ReadsT.slice Try.underlying32 (of_decide_eq_true (by kernel_rfl)) (Go.Val.ReadsT.int Try.underlying3)) (by kernel_rfl) (by kernel_rfl) (by kernel_rfl) (by kernel_rfl)) h1 (fun a => .inl ⟨_, rfl, _, rfl⟩) hw1
 clear hA0 hval0 hsz0 hsz
 refine (Go.Val.call_true (Go.Val.Ytgjmpefhjdgkoaa.c_bursarlaw08_NodeApart u0.1 u0.2.1 u0.2.2 u1.1 u1.2.1 u1.2.2 ⟨⟨⟨by have h := wf0.1.2; rw [show Try.prog.bytesOf 39 = 32 from by kernel_rfl] at h; have h2 : reachBytes ≤ 140737488355328 := (by decide); omega, by have h := wf0.2.1.2; rw [show Try.prog.bytesOf 9 = 16 from by kernel_rfl] at h; have h2 : reachBytes ≤ 140737488355328 := (by decide); omega, by have h := wf0.2.2.2; rw [show Try.prog.bytesOf 3 = 8 from by kernel_rfl] at h; have h2 : reachBytes ≤ 140737488355328 := (by decide); omega⟩, Go.Val.Ytgjmpefhjdgkoaa.lenP_of wf0.1.1, Go.Val.Ytgjmpefhjdgkoaa.lenK_of wf0.2.1.1⟩, ⟨⟨by have h := wf1.1.2; rw [show Try.prog.bytesOf 39 = 32 from by kernel_rfl] at h; have h2 : reachBytes ≤ 140737488355328 := (by decide); omega, by have h := wf1.2.1.2; rw [show Try.prog.bytesOf 9 = 16 from by kernel_rfl] at h; have h2 : reachBytes ≤ 140737488355328 := (by decide); omega, by have h := wf1.2.2.2; rw [show Try.prog.bytesOf 3 = 8 from by kernel_rfl] at h; have h2 : reachBytes ≤ 140737488355328 := (by decide); omega⟩, Go.Val.Ytgjmpefhjdgkoaa.lenP_of wf1.1.1, Go.Val.Ytgjmpefhjdgkoaa.lenK_of wf1.2.1.1⟩⟩) (Go.Val.relL_cons e0 (Go.Val.relL_cons e1 Go.Val.relL_nil))).mono fun e W' ⟨he, bel⟩ => ?_
 subst he
 exact ⟨_, rfl, _, _, _, [], _, [], hW', trodAll_mk1 (shut_bool Try.underlying4 _), (trodAll_cons_mk (Below.trod laidOut (by kernel_rfl) (of_decide_eq_true (by kernel_rfl)) k0 bel lt0) (trodAll_cons_mk (Below.trod laidOut (by kernel_rfl) (of_decide_eq_true (by kernel_rfl)) k1 bel lt1) trodAll_mk0)), rfl, bel.frame _, fun h => by cases h⟩
theorem over : Rows.nodeApartRow.holds Try.pinned (OpenSpec.ofChange Rows.nodeApartSpec) :=
 OpenClaim.holds_of_wide 7 Try.f7 rfl rfl rfl rfl rfl rfl rfl ⟨rfl, rfl, rfl, rfl, rfl⟩ rfl rfl rfl rfl rfl (by kernel_rfl) Try.func7 (by kernel_rfl)
  (of_decide_eq_true (by kernel_rfl)) (by unfold Func.isWrapper; first | (rw [if_pos (by decide +kernel)]; kernel_rfl) | (rw [if_neg (by decide +kernel)]; exact ⟨rfl, rfl⟩))
  (fun os started H enc _ => lifted os started H enc)
theorem proved : Rows.NodeApartSaid := over
end Go.Proofs.Ytgjmpefhjdgkoaa.nodeApart
namespace Go.Proofs.Ytgjmpefhjdgkoaa
theorem nodeApart_holds : Rows.NodeApartSaid := nodeApart.proved
end Go.Proofs.Ytgjmpefhjdgkoaa
