/- A round that leaves variables and rows of its own behind. -/
import Derived.Test.YtloeeiamgaljoaaVGo5
namespace Go.Val
open Go.RowKit
set_option linter.unusedSimpArgs false
set_option linter.unusedVariables false
section
variable {slots : List DV} {σ : Store} {Q : Exit → St → Prop} {s : Nat → List DV} {st : Nat → Store} {n i : Nat} {rows rg : List (Option Row)} {A B B' bg : List (Option Box)} {maps mg : List (Option (List (DV × DV)))}
theorem Q_rndB (hle : LeL slots (s (i + 1))) (hi : i < n) (h0 : st i = ⟨rows, A ++ B, maps⟩) (h1 : st (i + 1) = ⟨rows, A ++ B', maps⟩) (hσ : σ = ⟨rows ++ rg, A ++ (B' ++ bg), maps ++ mg⟩)
    (hl : B.length ≤ B'.length) (hn : nameds rows.length (A ++ B').length maps.length (s (i + 1)) = true) (hB : ∀ x ∈ B', ∀ b, x = some b → nameds 0 0 0 b.cs = true) : RoundG s st n i Q .normal ⟨slots, σ⟩ := by
  subst hσ
  refine Q_rndG hi ⟨hle, ?_, ?_, ?_, ?_⟩
  · rw [h1]; exact ⟨⟨rg, rfl⟩, ⟨bg, by simp⟩, ⟨mg, rfl⟩⟩
  · rw [h0, h1]; simp; omega
  · rw [h1]; exact hn
  · rw [h0, h1]
    refine ⟨fun id R h => .inl h, fun id b h => ?_, fun id M h => .inl h⟩
    simp only at h ⊢
    rcases Nat.lt_or_ge id A.length with hlt | hge
    · rw [List.getElem?_append_left hlt] at h ⊢
      exact .inl h
    · rw [List.getElem?_append_right hge] at h
      exact .inr (nameds_mono (Nat.zero_le _) (Nat.zero_le _) (Nat.zero_le _) _ (hB _ (List.mem_of_getElem? h) b rfl))
theorem LeL_kill : ∀ (s : List DV) (i : Nat), LeL s (s.set i .undef)
  | [], _ => LeL.refl _
  | _ :: _, 0 => LeL.cons (Le.undef _) (LeL.refl _)
  | _ :: s, i + 1 => LeL.cons (Le.refl _) (LeL_kill s i)
/-- Ways that come to the same but for slots that are looked at no more. -/
theorem W_kill {P : Program} {c : Code} {t0 : List DV} (kill : List Nat) (k : Ev P c ⟨t0, σ⟩ Q) (hk : killS kill slots = t0 := by simp only [killS_cons, killS_nil, List.set_cons_succ, List.set_cons_zero]; exact rfl) : Ev P c ⟨slots, σ⟩ Q := by
  subst hk
  refine Ev_le (s := ⟨slots, σ⟩) ?_ k
  show LeL slots (killS kill slots)
  induction kill generalizing slots with
  | nil => exact LeL.refl _
  | cons i l ih =>
    rw [killS_cons]
    exact fun G σ w vs h => ih k G σ w vs (LeL_kill slots i G σ w vs h)
end
end Go.Val
