/- What is handed in, read as values: numbers, texts, slices of these, and slices of slices. -/
import Derived.Test.YtloeeiamgaljoaaVRow
import Derived.Test.YtloeeiamgaljoaaVNum
import Derived.ChangeArms
import Derived.DataReads
import Derived.SizedLaws
namespace Go.Val
open Go.RowKit
set_option linter.unusedSimpArgs false
set_option linter.unusedVariables false

section
variable {P : Program} {W : World} {t e : TypeId} {S : DV → Prop}

def Reads (P : Program) (W : World) (t : TypeId) (S : DV → Prop) : Prop :=
  ∀ (H : Type) (enc : TypeId × Value → H) base spare held fuel cs x, DataW.trod enc P W base spare held fuel t cs = some x → (∀ n ∈ x.1.weights P t, n ≤ reachBytes) → ∃ d, S d ∧ RelL (G0 W) σ0 W d.cells cs
theorem weightsAll_mem {H : Type} {d : DataW H} {n : Nat} : ∀ {l : List (DataW H)}, d ∈ l → n ∈ d.weights P e → n ∈ DataW.weightsAll P e l
  | y :: l, h, hn => by
    rw [DataW.weightsAll, List.mem_append]
    rcases List.mem_cons.1 h with rfl | h
    · exact .inl hn
    · exact .inr (weightsAll_mem h hn)

theorem Reads.int {k : IntKind} (hu : P.underlying t = some (.int k)) : Reads P W t (fun d => ∃ n, d = .int k n ∧ (Lit.int k n).wf = true) := by
  intro H enc base spare held fuel cs x h hw0
  obtain ⟨n, rfl, _, hw⟩ := DataW.trod_int hu h
  exact ⟨.int k n, ⟨n, rfl, hw⟩, relL_cons (.int k n) relL_nil⟩
theorem Reads.byte (hu : P.underlying t = some (.int .u8)) : Reads P W t (fun d => ∃ b : UInt8, d = .int .u8 b.toNat) := by
  intro H enc base spare held fuel cs x h hw0
  obtain ⟨d, ⟨n, rfl, hw⟩, hr⟩ := Reads.int hu H enc base spare held fuel cs x h hw0
  refine ⟨_, ⟨UInt8.ofNat n.toNat, ?_⟩, hr⟩
  simp only [Lit.wf, IntKind.min, IntKind.max, Bool.and_eq_true, decide_eq_true_eq] at hw
  simp [IntKind.bits, IntKind.signed] at hw
  rw [show (UInt8.ofNat n.toNat).toNat = n.toNat % 256 from UInt8.toNat_ofNat']
  congr 1
  omega
theorem Reads.str (hu : P.underlying t = some .string) : Reads P W t (fun d => ∃ s, d = .str s) := by
  intro H enc base spare held fuel cs x h hw0
  obtain ⟨s, rfl, _⟩ := DataW.trod_string hu h
  refine ⟨.str s.data.toList, ⟨_, rfl⟩, relL_cons ?_ relL_nil⟩
  have := RelV.str (G := G0 W) (σ := σ0) (w := W) s.data.toList
  simpa using this

theorem Reads.slice (hu : P.underlying t = some (.slice e)) (hs : 0 < P.cellsOf e) (he : Reads P W e S) : Reads P W t (fun d => ∃ ds, d = .sl ds ∧ (∀ x ∈ ds, S x) ∧ ds.length * P.bytesOf e ≤ reachBytes) := by
  intro H enc base spare held fuel cs x h hw0
  rcases DataW.trod_slice hu h with ⟨rfl, _⟩ | ⟨a, len, cap, elems, rest, n, _, rfl, hxe, hb, hl, hm, hlen, hel, _, _⟩
  · exact ⟨.sl [], ⟨[], rfl, by simp, by simp⟩, relL_cons (.sl [] none 0 0 1 0 0 (fun _ => Go.undef) rfl (Nat.le_refl _) (.inl rfl) (by simp) (by simp [flat]) (by simp [flat])) relL_nil⟩
  · have hwl : (elems.length + rest.length) * P.bytesOf e ≤ reachBytes := hw0 _ (by rw [hxe]; show _ ∈ DataW.weights P t (.slice _ _); simp [DataW.weights, hu])
    have hwe : ∀ y ∈ elems, ∀ n ∈ y.1.weights P e, n ≤ reachBytes := fun y hy n hn => hw0 n (by have h2 := weightsAll_mem (P := P) (e := e) (List.mem_map_of_mem (f := Prod.fst) hy) hn; rw [hxe]; show _ ∈ DataW.weights P t (.slice _ _); simp only [DataW.weights, hu, List.mem_cons, List.mem_append]; exact .inr (.inl h2))
    rcases Nat.eq_zero_or_pos len with h0 | h0
    · subst h0
      exact ⟨.sl [], ⟨[], rfl, by simp, by simp⟩, relL_cons (.sl [] (some a) 0 cap 1 0 0 (fun _ => Go.undef) rfl hl (.inl rfl) (by simp) (by simp [flat]) (by simp [flat])) relL_nil⟩
    · have each : ∀ i, i < len → ∃ cs' y, W.cells? base (a.add (i * P.cellsOf e)) (P.cellsOf e) = some cs' ∧ DataW.trod enc P W base spare held n e cs' = some y ∧ ∀ n ∈ y.1.weights P e, n ≤ reachBytes := by
        intro i hi
        have := hel i hi
        rw [List.getElem?_eq_getElem (by omega), Option.bind_eq_some_iff] at this
        obtain ⟨cs', h1, h2⟩ := this
        exact ⟨cs', _, h1, h2, hwe _ (List.getElem_mem _)⟩
      obtain ⟨b, o, s⟩ := a
      have hspot : s = none ∧ b < W.heap.size := by
        obtain ⟨cs', y, h1, _⟩ := each 0 h0
        obtain ⟨_, hlen', hc⟩ := World.cells?_some h1
        have h2 := hc 0 (by omega)
        rw [List.getElem?_eq_getElem (by omega)] at h2
        obtain ⟨k1, k2⟩ := cell_block h2
        simp only [Addr.add] at k1 k2
        refine ⟨?_, ?_⟩
        · cases s with
          | none => rfl
          | some _ => simp at k2
        · cases s with
          | none => simpa using k1
          | some _ => simpa using k1
      obtain ⟨rfl, hbW⟩ := hspot
      have key : ∀ m, m ≤ len → ∃ ds : List DV, ds.length = m ∧ (∀ x ∈ ds, S x ∧ x.cells.length = P.cellsOf e) ∧ ∃ vs : List Value, vs.length = m * P.cellsOf e ∧ RelL (G0 W) σ0 W (flat ds) vs ∧
          ∀ (j : Nat) v, vs[j]? = some v → W.cell? ⟨b, o + j, none⟩ = some v := by
        intro m
        induction m with
        | zero => intro _; exact ⟨[], rfl, by simp, [], by simp, relL_nil, by simp⟩
        | succ m ih =>
          intro hm'
          obtain ⟨ds, h1, h2, vs, h3, h4, h5⟩ := ih (by omega)
          obtain ⟨cs', y, h6, h7, h7w⟩ := each m (by omega)
          obtain ⟨d, h8, h9⟩ := he H enc base spare held n cs' y h7 h7w
          obtain ⟨_, hlen', hc⟩ := World.cells?_some h6
          refine ⟨ds ++ [d], by simp [h1], ?_, vs ++ cs', ?_, ?_, ?_⟩
          · intro x hx
            rcases List.mem_append.1 hx with hx | hx
            · exact h2 x hx
            · simp at hx; subst hx
              exact ⟨h8, by rw [← h9.1, hlen']⟩
          · rw [List.length_append, h3, hlen', Nat.succ_mul]
          · rw [show flat (ds ++ [d]) = flat ds ++ d.cells by simp [flat]]
            exact h4.append h9
          · intro j v hv
            by_cases hj : j < vs.length
            · rw [List.getElem?_append_left hj] at hv; exact h5 j v hv
            · rw [List.getElem?_append_right (by omega)] at hv
              have hj2 := (List.getElem?_eq_some_iff.1 hv).1
              have := hc (j - vs.length) (by omega)
              rw [hv, Addr_add, Addr_add] at this
              rw [← this]
              congr 2
              rw [h3]
              omega
      obtain ⟨ds, h1, h2, vs, h3, h4, h5⟩ := key len (Nat.le_refl _)
      refine ⟨.sl ds, ⟨ds, rfl, fun x hx => (h2 x hx).1, by rw [h1, ← hlen]; exact Nat.le_trans (Nat.mul_le_mul_right _ (Nat.le_add_right _ _)) hwl⟩, relL_cons ?_ relL_nil⟩
      have := RelV.sl_mk (G := G0 W) (σ := σ0) (w := W) (xs := ds) (A := some ⟨b, o, none⟩) (c := cap) (st := P.cellsOf e) (by omega) (fun x hx => (h2 x hx).2)
        (.inr ⟨b, o, rfl, by simp [G0, hbW], vs, h4, h5⟩)
      rw [h1] at this
      exact this

/-- A slice of octets; a slice of such. -/
theorem bytes_of {ds : List DV} (h : ∀ x ∈ ds, ∃ b : UInt8, x = .int .u8 b.toNat) : ∃ l : List UInt8, ds = bytes l := by
  induction ds with
  | nil => exact ⟨[], rfl⟩
  | cons d ds ih =>
    obtain ⟨b, rfl⟩ := h d (by simp)
    obtain ⟨l, rfl⟩ := ih (fun x hx => h x (by simp [hx]))
    exact ⟨b :: l, rfl⟩
theorem parts_of {ds : List DV} (h : ∀ x ∈ ds, ∃ l : List UInt8, x = .sl (bytes l)) : ∃ ps : List (List UInt8), ds = ps.map fun b => .sl (bytes b) := by
  induction ds with
  | nil => exact ⟨[], rfl⟩
  | cons d ds ih =>
    obtain ⟨b, rfl⟩ := h d (by simp)
    obtain ⟨l, rfl⟩ := ih (fun x hx => h x (by simp [hx]))
    exact ⟨b :: l, rfl⟩
theorem read_parts {c : TypeId} (hu : P.underlying t = some (.slice e)) (hs : P.cellsOf e = 1) (hv : P.underlying e = some (.slice c)) (hs2 : P.cellsOf c = 1) (hc : P.underlying c = some (.int .u8))
    {H : Type} {enc : TypeId × Value → H} {v : Value} {d : DataW H} {p : List MemPlace} {spare : Nat → Bool} {held : Bool} {base : Nat} (h : DataW.Trod enc P W base spare held t v d p) (hcell : v.cells = #[v]) (hw : ∀ n ∈ d.weights P t, n ≤ reachBytes) :
    ∃ ps : List (List UInt8), RelV (G0 W) σ0 W (.sl (ps.map fun b => .sl (bytes b))) v := by
  obtain ⟨fuel, hf⟩ := h
  obtain ⟨x, ⟨ds, rfl, hds, _⟩, hr⟩ := Reads.slice hu (by omega) (Reads.slice hv (by omega) (Reads.byte hc)) H enc base spare held fuel _ _ hf hw
  obtain ⟨ps, rfl⟩ := parts_of (fun x hx => by
    obtain ⟨es, rfl, hes, _⟩ := hds x hx
    obtain ⟨l, rfl⟩ := bytes_of hes
    exact ⟨l, rfl⟩)
  refine ⟨ps, ?_⟩
  rw [hcell] at hr
  exact hr.2 0 _ _ rfl rfl
end
end Go.Val
