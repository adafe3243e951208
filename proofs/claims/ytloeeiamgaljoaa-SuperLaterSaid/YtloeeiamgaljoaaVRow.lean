/- From a function of values to the statement's call: what was there is only read. -/
import Derived.Test.YtloeeiamgaljoaaVRun
import Derived.ProofKit
import Derived.OpenShut
namespace Go.Val
open Go.RowKit
set_option linter.unusedSimpArgs false
set_option linter.unusedVariables false

/-- All that is there is only read. -/
def G0 (W : World) : Gh := { own := fun k => if k < W.heap.size then .imm else .free, rowV := fun _ => Go.undef, boxB := fun _ => 0, mapB := fun _ => 0 }
def σ0 : Store := ⟨[], [], []⟩

theorem start (W : World) : StoreRel W (G0 W) σ0 W := by
  refine ⟨Below.refl _ _, fun k hk => ?_, fun k hk hi => ?_, fun id R h => by simp [σ0] at h, fun id R h => by simp [σ0] at h, fun id R h => by simp [σ0] at h⟩
  · simp only [G0] at hk
    split at hk
    · assumption
    · exact absurd rfl hk
  · simp only [G0] at hk hi
    split at hk
    · rename_i h; rw [if_pos h] at hi; exact absurd rfl hi
    · exact absurd rfl hk

theorem call_true {P : Program} {f : FuncId} {args : List DV} (hF : Pure P f args (.bool true)) {W : World} {vs : Array Value} (hr : RelL (G0 W) σ0 W args vs.toList) :
    Calls P f vs W (fun e W' => e = .returned (.bool true) ∧ Below W.heap.size W W') := by
  refine (hF σ0 W (G0 W) vs W (start W) hr).mono ?_
  rintro e W' ⟨v, r, σ', G', rfl, ⟨rfl, rfl⟩, hS, _, hv⟩
  cases hv
  exact ⟨rfl, hS.below⟩

theorem relL_nil {G : Gh} {σ : Store} {W : World} : RelL G σ W [] [] := ⟨rfl, fun i c v h => by simp at h⟩
theorem relL_cons {G : Gh} {σ : Store} {W : World} {d : DV} {v : Value} {ds : List DV} {vs : List Value} (h : RelV G σ W d v) (k : RelL G σ W ds vs) : RelL G σ W (d :: ds) (v :: vs) := by
  refine ⟨by simp [k.1], fun i c u hc hu => ?_⟩
  cases i with
  | zero => simp at hc hu; subst hc; subst hu; exact h
  | succ i => simp at hc hu; exact k.2 i c u hc hu

/-- What a slice of numbers reads as. -/
def IsRow (k : IntKind) (w : World) (a : Option Addr) (len cap : Nat) (zs : List Int) : Prop :=
  (a = none ∧ len = 0 ∧ cap = 0 ∧ zs = []) ∨
  ∃ x, a = some x ∧ len ≤ cap ∧ zs.length = cap ∧ (∀ i, i < zs.length → w.cell? (x.add i) = some (.int k (zs.getD i 0))) ∧ ∀ n ∈ zs, (Lit.int k n).wf = true

theorem cell_block {W : World} {a : Addr} {v : Value} (h : W.cell? a = some v) : a.block < W.heap.size ∧ a.spot = none := by
  constructor
  · rcases Nat.lt_or_ge a.block W.heap.size with h' | h'
    · exact h'
    · simp [World.cell?, Array.getElem?_eq_none h'] at h
  · unfold World.cell? at h
    split at h
    · split at h
      · cases h
      · rename_i hs; simpa using hs
    · cases h

theorem row_ints {W : World} {k : IntKind} {a : Option Addr} {len cap : Nat} {zs : List Int} (h : IsRow k W a len cap zs) : RelV (G0 W) σ0 W (.sl ((zs.take len).map fun n => .int k n)) (.slice a len cap) := by
  have cell1 : ∀ (l : List Int), ∀ x ∈ l.map (fun n => DV.int k n), x.cells.length = 1 := by
    intro l x hx
    simp only [List.mem_map] at hx
    obtain ⟨n, _, rfl⟩ := hx
    rfl
  have fl : ∀ l : List Int, flat (l.map fun n => DV.int k n) = l.map fun n => DV.int k n := by
    intro l
    induction l with
    | nil => rfl
    | cons x l ih => simp only [flat, List.map_cons, List.flatMap_cons, DV.cells, List.singleton_append] at *; rw [ih]
  rcases h with ⟨rfl, rfl, rfl, rfl⟩ | ⟨x, rfl, hlc, hz, hcell, hwf⟩
  · exact .sl [] none 0 0 1 0 0 (fun _ => Go.undef) rfl (Nat.le_refl _) (.inl rfl) (by simp) (by simp [flat]) (by simp [flat])
  · rcases Nat.eq_zero_or_pos len with h0 | h0
    · subst h0
      exact .sl [] (some x) 0 cap 1 0 0 (fun _ => Go.undef) rfl hlc (.inl rfl) (by simp) (by simp [flat]) (by simp [flat])
    · obtain ⟨hb, hs⟩ := cell_block (hcell 0 (by omega))
      obtain ⟨b, o, s⟩ := x
      simp only [Addr.add] at hb hs
      have hs' : s = none := by cases s with | none => rfl | some _ => simp at hs
      subst hs'
      have hcell' : ∀ i, i < zs.length → W.cell? ⟨b, o + i, none⟩ = some (.int k (zs.getD i 0)) := fun i hi => by rw [← Addr_add]; exact hcell i hi
      have hb' : b < W.heap.size := (cell_block (hcell' 0 (by omega))).1
      refine .sl _ _ len cap 1 b o (fun i => .int k (zs.getD i 0)) (by simp; omega) hlc (.inr ⟨rfl, by simp [G0, hb']⟩) (cell1 _) (fun i hi => ?_) (fun i d hd => ?_)
      · rw [fl] at hi
        simp at hi
        exact hcell' i (by omega)
      · rw [fl] at hd
        simp only [List.getElem?_map, Option.map_eq_some_iff] at hd
        obtain ⟨n, hn, rfl⟩ := hd
        rw [List.getElem?_take] at hn
        split at hn
        · rw [List.getD_eq_getElem?_getD, hn]; exact .int _ _
        · cases hn

theorem row_bytes {W : World} {a : Option Addr} {len cap : Nat} {zs : List Int} (h : IsRow .u8 W a len cap zs) : ∃ l : List UInt8, RelV (G0 W) σ0 W (.sl (bytes l)) (.slice a len cap) := by
  refine ⟨(zs.take len).map fun n => UInt8.ofNat n.toNat, ?_⟩
  have hw : ∀ n ∈ zs, (Lit.int .u8 n).wf = true := by
    rcases h with ⟨_, _, _, rfl⟩ | ⟨_, _, _, _, _, h⟩
    · simp
    · exact h
  have := row_ints h
  have e : bytes ((zs.take len).map fun n => UInt8.ofNat n.toNat) = (zs.take len).map fun n => DV.int .u8 n := by
    simp only [bytes, List.map_map]
    refine List.map_congr_left (fun n hn => ?_)
    have := hw n (List.mem_of_mem_take hn)
    simp only [Lit.wf, IntKind.min, IntKind.max, Bool.and_eq_true, decide_eq_true_eq] at this
    simp only [Function.comp]
    congr 1
    simp [IntKind.bits, IntKind.signed] at this
    rw [show (UInt8.ofNat n.toNat).toNat = n.toNat % 256 from UInt8.toNat_ofNat']
    omega
  rw [e]
  exact this
end Go.Val
