/- Structs that are handed in, read as values. -/
import Derived.Test.YtloeeiamgaljoaaVRead
namespace Go.Val
open Go.RowKit
set_option linter.unusedSimpArgs false
set_option linter.unusedVariables false
section
variable {P : Program} {W : World} {t : TypeId}

/-- Fields one behind the other: what each reads as. -/
def ReadFs (P : Program) (W : World) : List (TypeId × Nat) → Nat → List (DV → Prop) → Prop
  | [], _, Ss => Ss = []
  | (ft, off) :: fs, at_, Ss => ∃ S Ss', Ss = S :: Ss' ∧ off = at_ ∧ Reads P W ft S ∧ ReadFs P W fs (at_ + P.cellsOf ft) Ss'

theorem Reads.struct {fs : Array Field} {l : List (TypeId × Nat)} {Ss : List (DV → Prop)} (hu : P.underlying t = some (.struct fs)) (hl : fs.toList.map (fun f => (f.type, f.offset)) = l) (h : ReadFs P W l 0 Ss) (hz : (l.map fun f => P.cellsOf f.1).sum = P.cellsOf t) :
    Reads P W t (fun d => ∃ ds, d = .agg (flat ds) ∧ ds.length = Ss.length ∧ ∀ (i : Nat) S x, Ss[i]? = some S → ds[i]? = some x → S x) := by
  intro H enc base spare held fuel cs x hx hw0
  obtain ⟨xs, n, _, rfl, hlen, hxl, hf⟩ := DataW.trod_struct hu hx
  have key : ∀ (l : List (TypeId × Nat)) (at_ : Nat) (Ss : List (DV → Prop)) (k : Nat), ReadFs P W l at_ Ss → (∀ i f, l[i]? = some f → ∃ F : Field, fs[k + i]? = some F ∧ F.type = f.1 ∧ F.offset = f.2) → at_ + (l.map fun f => P.cellsOf f.1).sum = cs.length → k + l.length ≤ fs.size →
      ∃ ds : List DV, ds.length = Ss.length ∧ (∀ (i : Nat) S x, Ss[i]? = some S → ds[i]? = some x → S x) ∧ RelL (G0 W) σ0 W (flat ds) (cs.drop at_) := by
    intro l
    induction l with
    | nil =>
      intro at_ Ss k hR _ hsum _
      have hR : Ss = [] := hR
      subst hR
      simp only [List.map_nil, List.sum_nil, Nat.add_zero] at hsum
      refine ⟨[], rfl, fun i S x h => by simp at h, ?_⟩
      rw [List.drop_of_length_le (by omega)]
      exact relL_nil
    | cons f l ih =>
      intro at_ Ss k hR hF hsum hk
      obtain ⟨ft, off⟩ := f
      obtain ⟨S, Ss', rfl, hoff, hrd, hrest⟩ := hR
      subst hoff
      obtain ⟨F, hF1, hF2, hF3⟩ := hF 0 (ft, off) rfl
      simp only at hF2 hF3
      rw [Nat.add_zero] at hF1
      have h1 := hf k F hF1
      have hkx : k < xs.length := by rw [hxl]; exact (Array.getElem?_eq_some_iff.1 hF1).1
      rw [List.getElem?_eq_getElem hkx, hF2, hF3] at h1
      obtain ⟨d, hd, hrel⟩ := hrd H enc base spare held n _ _ h1 (fun m hm => hw0 m (by
        show _ ∈ DataW.weights P t (.agg _)
        simp only [DataW.weights, hu]
        exact DataW.weights_mem_each (j := k) (t := ft) (d := (xs[k]).1) (by rw [List.getElem?_map, Array.getElem?_toList, hF1]; simp [hF2]) (by rw [List.getElem?_map, List.getElem?_eq_getElem hkx]; rfl) m hm))
      simp only [List.map_cons, List.sum_cons] at hsum
      simp only [List.length_cons] at hk
      obtain ⟨ds, e1, e2, e3⟩ := ih (off + P.cellsOf ft) Ss' (k + 1) hrest (fun i f h => by
        obtain ⟨F', a, b, c⟩ := hF (i + 1) f (by simpa using h)
        exact ⟨F', by rw [← a]; congr 1; omega, b, c⟩) (by omega) (by omega)
      refine ⟨d :: ds, by simp [e1], fun i S' x hS hx => ?_, ?_⟩
      · cases i with
        | zero => simp at hS hx; subst hS; subst hx; exact hd
        | succ i => simp at hS hx; exact e2 i S' x hS hx
      · rw [flat_cons]
        have hsplit : cs.drop off = (cs.drop off).take (P.cellsOf ft) ++ cs.drop (off + P.cellsOf ft) := by
          rw [← List.drop_drop, List.take_append_drop]
        rw [hsplit]
        exact hrel.append e3
  obtain ⟨ds, e1, e2, e3⟩ := key l 0 Ss 0 h (fun i f hi => by
    rw [← hl, List.getElem?_map] at hi
    cases hq : fs.toList[i]? with
    | none => rw [hq] at hi; simp at hi
    | some F =>
      rw [hq] at hi
      simp only [Option.map_some, Option.some.injEq] at hi
      subst hi
      exact ⟨F, by rw [Nat.zero_add, ← Array.getElem?_toList]; exact hq, rfl, rfl⟩) (by rw [Nat.zero_add, hz, hlen]) (by rw [← hl]; simp)
  refine ⟨.agg (flat ds), ⟨ds, rfl, e1, e2⟩, ?_⟩
  simpa [DV.cells] using e3

theorem Reads.bool (hu : P.underlying t = some .bool) : Reads P W t (fun d => ∃ b, d = .bool b) := by
  intro H enc base spare held fuel cs x h hw0
  obtain ⟨s, rfl, _⟩ := DataW.trod_bool hu h
  exact ⟨.bool s, ⟨_, rfl⟩, relL_cons (.bool s) relL_nil⟩

/-- A struct of numbers alone. -/
def IsInts (ks : List IntKind) (d : DV) : Prop := ∃ ns : List Int, ns.length = ks.length ∧ d = .agg ((ks.zip ns).map fun p => .int p.1 p.2) ∧ ∀ (i : Nat) k n, ks[i]? = some k → ns[i]? = some n → (Lit.int k n).wf = true
theorem Reads.ints {fs : Array Field} {l : List (TypeId × Nat)} {ks : List IntKind} (hu : P.underlying t = some (.struct fs)) (hl : fs.toList.map (fun f => (f.type, f.offset)) = l)
    (hk : l.map (fun f => P.underlying f.1) = ks.map fun k => some (.int k)) (ho : l.map (·.2) = List.range ks.length) (hc : ∀ f ∈ l, P.cellsOf f.1 = 1) (hz : P.cellsOf t = ks.length) :
    Reads P W t (IsInts ks) := by
  have hll : l.length = ks.length := by have := congrArg List.length hk; simpa using this
  have hR : ∀ (l : List (TypeId × Nat)) (ks : List IntKind) (at_ : Nat), l.map (fun f => P.underlying f.1) = ks.map (fun k => some (.int k)) → l.map (·.2) = List.range' at_ ks.length → (∀ f ∈ l, P.cellsOf f.1 = 1) →
      ReadFs P W l at_ (ks.map fun k d => ∃ n, d = .int k n ∧ (Lit.int k n).wf = true) := by
    intro l
    induction l with
    | nil =>
      intro ks at_ h1 _ _
      have : ks = [] := by simpa using h1.symm
      subst this; rfl
    | cons f l ih =>
      intro ks at_ h1 h2 h3
      cases ks with
      | nil => simp at h1
      | cons k ks =>
        simp only [List.map_cons, List.cons.injEq, List.length_cons, List.range'_succ] at h1 h2
        refine ⟨_, _, rfl, h2.1, Reads.int h1.1, ?_⟩
        rw [h3 f (by simp)]
        exact ih ks (at_ + 1) h1.2 h2.2 (fun g hg => h3 g (by simp [hg]))
  intro H enc base spare held fuel cs x hx hw0
  obtain ⟨d, ⟨ds, rfl, e1, e2⟩, e3⟩ := Reads.struct hu hl (hR l ks 0 hk (by rw [ho, List.range_eq_range']) hc) (by
    rw [hz, ← hll]
    clear hR hk ho hl hll
    induction l with
    | nil => rfl
    | cons f l ih => simp only [List.map_cons, List.sum_cons, List.length_cons]; rw [hc f (by simp), ih (fun g hg => hc g (by simp [hg]))]; omega) H enc base spare held fuel cs x hx hw0
  refine ⟨_, ?_, e3⟩
  have each : ∀ (ks : List IntKind) (ds : List DV), ds.length = (ks.map fun k d => ∃ n, d = DV.int k n ∧ (Lit.int k n).wf = true).length → (∀ (i : Nat) S x, (ks.map fun k d => ∃ n, d = DV.int k n ∧ (Lit.int k n).wf = true)[i]? = some S → ds[i]? = some x → S x) → IsInts ks (.agg (flat ds)) := by
    intro ks
    induction ks with
    | nil => intro ds h1 _; have : ds = [] := by simpa using h1
             subst this; exact ⟨[], rfl, rfl, fun i k n h => by simp at h⟩
    | cons k ks ih =>
      intro ds h1 h2
      cases ds with
      | nil => simp at h1
      | cons d ds =>
        obtain ⟨n, rfl, hw⟩ := h2 0 _ d rfl rfl
        obtain ⟨ns, a, b, c⟩ := ih ds (by simpa using h1) (fun i S x hS hx => h2 (i + 1) S x (by simpa using hS) (by simpa using hx))
        simp only [DV.agg.injEq] at b
        refine ⟨n :: ns, by simp [a], by simp [flat_cons, DV.cells, b], fun i k' n' hk hn => ?_⟩
        cases i with
        | zero => simp at hk hn; subst hk; subst hn; exact hw
        | succ i => exact c i k' n' (by simpa using hk) (by simpa using hn)
  exact each ks ds e1 e2
theorem read_ints {fs : Array Field} {l : List (TypeId × Nat)} (ks : List IntKind) (hu : P.underlying t = some (.struct fs)) (hl : fs.toList.map (fun f => (f.type, f.offset)) = l)
    (hk : l.map (fun f => P.underlying f.1) = ks.map fun k => some (.int k)) (ho : l.map (·.2) = List.range ks.length) (hc : ∀ f ∈ l, P.cellsOf f.1 = 1) (hz : P.cellsOf t = ks.length)
    {H : Type} {enc : TypeId × Value → H} {v : Value} {d : DataW H} {p : List MemPlace} {spare : Nat → Bool} {held : Bool} {base : Nat} (h : DataW.Trod enc P W base spare held t v d p) {cs : Array Value} (hv : v = .agg cs) (hw : ∀ n ∈ d.weights P t, n ≤ reachBytes) :
    ∃ ns : List Int, ns.length = ks.length ∧ RelV (G0 W) σ0 W (.agg ((ks.zip ns).map fun p => .int p.1 p.2)) v ∧ ∀ (i : Nat) k n, ks[i]? = some k → ns[i]? = some n → (Lit.int k n).wf = true := by
  obtain ⟨fuel, hf⟩ := h
  obtain ⟨d, ⟨ns, h1, rfl, h2⟩, hr⟩ := Reads.ints hu hl hk ho hc hz H enc base spare held fuel _ _ hf hw
  refine ⟨ns, h1, ?_, h2⟩
  subst hv
  have e : (⟨cs.toList⟩ : Array Value) = cs := by cases cs; rfl
  rw [← e]
  exact .agg _ _ hr.1 hr.2
theorem list1 {α : Type} {l : List α} (h : l.length = 1) : ∃ a0, l = [a0] := by
  match l, h with
  | [a0], _ => exact ⟨a0, rfl⟩
theorem list2 {α : Type} {l : List α} (h : l.length = 2) : ∃ a0 a1, l = [a0, a1] := by
  match l, h with
  | [a0, a1], _ => exact ⟨a0, a1, rfl⟩
theorem list3 {α : Type} {l : List α} (h : l.length = 3) : ∃ a0 a1 a2, l = [a0, a1, a2] := by
  match l, h with
  | [a0, a1, a2], _ => exact ⟨a0, a1, a2, rfl⟩
theorem list4 {α : Type} {l : List α} (h : l.length = 4) : ∃ a0 a1 a2 a3, l = [a0, a1, a2, a3] := by
  match l, h with
  | [a0, a1, a2, a3], _ => exact ⟨a0, a1, a2, a3, rfl⟩
theorem list5 {α : Type} {l : List α} (h : l.length = 5) : ∃ a0 a1 a2 a3 a4, l = [a0, a1, a2, a3, a4] := by
  match l, h with
  | [a0, a1, a2, a3, a4], _ => exact ⟨a0, a1, a2, a3, a4, rfl⟩
theorem list6 {α : Type} {l : List α} (h : l.length = 6) : ∃ a0 a1 a2 a3 a4 a5, l = [a0, a1, a2, a3, a4, a5] := by
  match l, h with
  | [a0, a1, a2, a3, a4, a5], _ => exact ⟨a0, a1, a2, a3, a4, a5, rfl⟩
theorem list7 {α : Type} {l : List α} (h : l.length = 7) : ∃ a0 a1 a2 a3 a4 a5 a6, l = [a0, a1, a2, a3, a4, a5, a6] := by
  match l, h with
  | [a0, a1, a2, a3, a4, a5, a6], _ => exact ⟨a0, a1, a2, a3, a4, a5, a6, rfl⟩
theorem list8 {α : Type} {l : List α} (h : l.length = 8) : ∃ a0 a1 a2 a3 a4 a5 a6 a7, l = [a0, a1, a2, a3, a4, a5, a6, a7] := by
  match l, h with
  | [a0, a1, a2, a3, a4, a5, a6, a7], _ => exact ⟨a0, a1, a2, a3, a4, a5, a6, a7, rfl⟩
theorem list9 {α : Type} {l : List α} (h : l.length = 9) : ∃ a0 a1 a2 a3 a4 a5 a6 a7 a8, l = [a0, a1, a2, a3, a4, a5, a6, a7, a8] := by
  match l, h with
  | [a0, a1, a2, a3, a4, a5, a6, a7, a8], _ => exact ⟨a0, a1, a2, a3, a4, a5, a6, a7, a8, rfl⟩
theorem list10 {α : Type} {l : List α} (h : l.length = 10) : ∃ a0 a1 a2 a3 a4 a5 a6 a7 a8 a9, l = [a0, a1, a2, a3, a4, a5, a6, a7, a8, a9] := by
  match l, h with
  | [a0, a1, a2, a3, a4, a5, a6, a7, a8, a9], _ => exact ⟨a0, a1, a2, a3, a4, a5, a6, a7, a8, a9, rfl⟩
end
end Go.Val
