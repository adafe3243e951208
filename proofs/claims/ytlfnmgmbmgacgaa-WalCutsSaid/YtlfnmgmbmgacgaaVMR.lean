/- From a function of values to the statement's call: what was there is only read. What is handed in, read as values: numbers, texts, slices of these, and slices of slices. Structs that are handed in, read as values. What is handed in, read as data of any make. -/
import Derived.Test.YtlfnmgmbmgacgaaVM3
import Derived.ProofKit
import Derived.OpenShut
import Derived.ChangeArms
import Derived.DataReads
import Derived.SizedLaws
section
namespace Go.Val
open Go.RowKit
set_option linter.unusedSimpArgs false
set_option linter.unusedVariables false

def G0 (W : World) : Gh := { own := fun k => if k < W.heap.size then .imm else .free, rowV := fun _ => Go.undef, boxB := fun _ => 0, mapB := fun _ => 0 }
def σ0 : Store := ⟨[], [], []⟩

theorem start (W : World) : StoreRel W (G0 W) σ0 W := by
 refine ⟨Below.refl _ _, fun k hk => ?_, fun k hk hi => ?_, fun id R h => by simp [σ0] at h, fun id R h => by simp [σ0] at h, fun id R h => by simp [σ0] at h⟩
 ·simp only [G0] at hk
  split at hk
  ·assumption
  ·exact absurd rfl hk
 ·simp only [G0] at hk hi
  split at hk
  ·rename_i h; rw [if_pos h] at hi; exact absurd rfl hi
  ·exact absurd rfl hk

theorem call_true {P : Program} {f : FuncId} {args : List DV} (hF : Pure P f args (.bool true)) {W : World} {vs : Array Value} (hr : RelL (G0 W) σ0 W args vs.toList) :
  Calls P f vs W (fun e W' => e = .returned (.bool true) ∧ Below W.heap.size W W') := by
 refine (hF σ0 W (G0 W) vs W (start W) hr).mono ?_
 rintro e W' ⟨v, r, σ', G', rfl, ⟨rfl, rfl⟩, hS, _, hv⟩
 cases hv
 exact ⟨rfl, hS.below⟩

theorem relL_nil {G : Gh} {σ : Store} {W : World} : RelL G σ W [] [] := ⟨rfl, fun i c v h => by simp at h⟩
theorem relL_cons {G : Gh} {σ : Store} {W : World} {d : DV} {v : Value} {ds : List DV} {vs : List Value} (h : RelV G σ W d v) (k : RelL G σ W ds vs) : RelL G σ W (d :: ds) (v :: vs) := by
 refine ⟨by simp [k.1], fun i c u hc hu => ?_⟩
 cases i with
 | zero => simp at hc hu; subst hc; subst hu; exact h
 | succ i => simp at hc hu; exact k.2 i c u hc hu

def IsRow (k : IntKind) (w : World) (a : Option Addr) (len cap : Nat) (zs : List Int) : Prop :=
 (a = none ∧ len = 0 ∧ cap = 0 ∧ zs = []) ∨
 ∃ x, a = some x ∧ len ≤ cap ∧ zs.length = cap ∧ (∀ i, i < zs.length → w.cell? (x.add i) = some (.int k (zs.getD i 0))) ∧ ∀ n ∈ zs, (Lit.int k n).wf = true

theorem cell_block {W : World} {a : Addr} {v : Value} (h : W.cell? a = some v) : a.block < W.heap.size ∧ a.spot = none := by
 constructor
 ·rcases Nat.lt_or_ge a.block W.heap.size with h' | h'
  ·exact h'
  ·simp [World.cell?, Array.getElem?_eq_none h'] at h
 ·unfold World.cell? at h
  split at h
  ·split at h
   ·cases h
   ·rename_i hs; simpa using hs
  ·cases h

end Go.Val
end

section
namespace Go.Val
open Go.RowKit
set_option linter.unusedSimpArgs false
set_option linter.unusedVariables false

section
variable {P : Program} {W : World} {t e : TypeId} {S : DV → Prop}

def Reads (P : Program) (W : World) (t : TypeId) (S : DV → Prop) : Prop :=
 ∀ (H : Type) (enc : TypeId × Value → H) base spare held fuel cs x, DataW.trod enc P W base spare held fuel t cs = some x → (∀ n ∈ x.1.weights P t, n ≤ reachBytes) → ∃ d, S d ∧ RelL (G0 W) σ0 W d.cells cs
theorem weightsAll_mem {H : Type} {d : DataW H} {n : Nat} : ∀ {l : List (DataW H)}, d ∈ l → n ∈ d.weights P e → n ∈ DataW.weightsAll P e l
 | y :: l, h, hn => by
  rw [DataW.weightsAll, List.mem_append]
  rcases List.mem_cons.1 h with rfl | h
  ·exact .inl hn
  ·exact .inr (weightsAll_mem h hn)

theorem Reads.int {k : IntKind} (hu : P.underlying t = some (.int k)) : Reads P W t (fun d => ∃ n, d = .int k n ∧ (Lit.int k n).wf = true) := by
 intro H enc base spare held fuel cs x h hw0
 obtain ⟨n, rfl, _, hw⟩ := DataW.trod_int hu h
 exact ⟨.int k n, ⟨n, rfl, hw⟩, relL_cons (.int k n) relL_nil⟩
theorem Reads.byte (hu : P.underlying t = some (.int .u8)) : Reads P W t (fun d => ∃ b : UInt8, d = .int .u8 b.toNat) := by
 intro H enc base spare held fuel cs x h hw0
 obtain ⟨d, ⟨n, rfl, hw⟩, hr⟩ := Reads.int hu H enc base spare held fuel cs x h hw0
 refine ⟨_, ⟨UInt8.ofNat n.toNat, ?_⟩, hr⟩
 simp only [Lit.wf, IntKind.min, IntKind.max, Bool.and_eq_true, decide_eq_true_eq] at hw
 simp [IntKind.bits, IntKind.signed] at hw
 rw [show (UInt8.ofNat n.toNat).toNat = n.toNat % 256 from UInt8.toNat_ofNat']
 congr 1
 omega
theorem Reads.str (hu : P.underlying t = some .string) : Reads P W t (fun d => ∃ s, d = .str s) := by
 intro H enc base spare held fuel cs x h hw0
 obtain ⟨s, rfl, _⟩ := DataW.trod_string hu h
 refine ⟨.str s.data.toList, ⟨_, rfl⟩, relL_cons ?_ relL_nil⟩
 have := RelV.str (G := G0 W) (σ := σ0) (w := W) s.data.toList
 simpa using this

theorem Reads.slice (hu : P.underlying t = some (.slice e)) (hs : 0 < P.cellsOf e) (he : Reads P W e S) : Reads P W t (fun d => ∃ ds, d = .sl ds ∧ (∀ x ∈ ds, S x) ∧ ds.length * P.bytesOf e ≤ reachBytes) := by
 intro H enc base spare held fuel cs x h hw0
 rcases DataW.trod_slice hu h with ⟨rfl, _⟩ | ⟨a, len, cap, elems, rest, n, _, rfl, hxe, hb, hl, hm, hlen, hel, _, _⟩
 ·exact ⟨.sl [], ⟨[], rfl, by simp, by simp⟩, relL_cons (.sl [] none 0 0 1 0 0 (fun _ => Go.undef) rfl (Nat.le_refl _) (.inl rfl) (by simp) (by simp [flat]) (by simp [flat])) relL_nil⟩
 ·have hwl : (elems.length + rest.length) * P.bytesOf e ≤ reachBytes := hw0 _ (by rw [hxe]; show _ ∈ DataW.weights P t (.slice _ _); simp [DataW.weights, hu])
  have hwe : ∀ y ∈ elems, ∀ n ∈ y.1.weights P e, n ≤ reachBytes := fun y hy n hn => hw0 n (by have h2 := weightsAll_mem (P := P) (e := e) (List.mem_map_of_mem (f := Prod.fst) hy) hn; rw [hxe]; show _ ∈ DataW.weights P t (.slice _ _); simp only [DataW.weights, hu, List.mem_cons, List.mem_append]; exact .inr (.inl h2))
  rcases Nat.eq_zero_or_pos len with h0 | h0
  ·subst h0
   exact ⟨.sl [], ⟨[], rfl, by simp, by simp⟩, relL_cons (.sl [] (some a) 0 cap 1 0 0 (fun _ => Go.undef) rfl hl (.inl rfl) (by simp) (by simp [flat]) (by simp [flat])) relL_nil⟩
  ·have each : ∀ i, i < len → ∃ cs' y, W.cells? base (a.add (i * P.cellsOf e)) (P.cellsOf e) = some cs' ∧ DataW.trod enc P W base spare held n e cs' = some y ∧ ∀ n ∈ y.1.weights P e, n ≤ reachBytes := by
    intro i hi
    have := hel i hi
    rw [List.getElem?_eq_getElem (by omega), Option.bind_eq_some_iff] at this
    obtain ⟨cs', h1, h2⟩ := this
    exact ⟨cs', _, h1, h2, hwe _ (List.getElem_mem _)⟩
   obtain ⟨b, o, s⟩ := a
   have hspot : s = none ∧ b < W.heap.size := by
    obtain ⟨cs', y, h1, _⟩ := each 0 h0
    obtain ⟨_, hlen', hc⟩ := World.cells?_some h1
    have h2 := hc 0 (by omega)
    rw [List.getElem?_eq_getElem (by omega)] at h2
    obtain ⟨k1, k2⟩ := cell_block h2
    simp only [Addr.add] at k1 k2
    refine ⟨?_, ?_⟩
    ·cases s with
     | none => rfl
     | some _ => simp at k2
    ·cases s with
     | none => simpa using k1
     | some _ => simpa using k1
   obtain ⟨rfl, hbW⟩ := hspot
   have key : ∀ m, m ≤ len → ∃ ds : List DV, ds.length = m ∧ (∀ x ∈ ds, S x ∧ x.cells.length = P.cellsOf e) ∧ ∃ vs : List Value, vs.length = m * P.cellsOf e ∧ RelL (G0 W) σ0 W (flat ds) vs ∧
     ∀ (j : Nat) v, vs[j]? = some v → W.cell? ⟨b, o + j, none⟩ = some v := by
    intro m
    induction m with
    | zero => intro _; exact ⟨[], rfl, by simp, [], by simp, relL_nil, by simp⟩
    | succ m ih =>
     intro hm'
     obtain ⟨ds, h1, h2, vs, h3, h4, h5⟩ := ih (by omega)
     obtain ⟨cs', y, h6, h7, h7w⟩ := each m (by omega)
     obtain ⟨d, h8, h9⟩ := he H enc base spare held n cs' y h7 h7w
     obtain ⟨_, hlen', hc⟩ := World.cells?_some h6
     refine ⟨ds ++ [d], by simp [h1], ?_, vs ++ cs', ?_, ?_, ?_⟩
     ·intro x hx
      rcases List.mem_append.1 hx with hx | hx
      ·exact h2 x hx
      ·simp at hx; subst hx
       exact ⟨h8, by rw [← h9.1, hlen']⟩
     ·rw [List.length_append, h3, hlen', Nat.succ_mul]
     ·rw [show flat (ds ++ [d]) = flat ds ++ d.cells by simp [flat]]
      exact h4.append h9
     ·intro j v hv
      by_cases hj : j < vs.length
      ·rw [List.getElem?_append_left hj] at hv; exact h5 j v hv
      ·rw [List.getElem?_append_right (by omega)] at hv
       have hj2 := (List.getElem?_eq_some_iff.1 hv).1
       have := hc (j - vs.length) (by omega)
       rw [hv, Addr_add, Addr_add] at this
       rw [← this]
       congr 2
       rw [h3]
       omega
   obtain ⟨ds, h1, h2, vs, h3, h4, h5⟩ := key len (Nat.le_refl _)
   refine ⟨.sl ds, ⟨ds, rfl, fun x hx => (h2 x hx).1, by rw [h1, ← hlen]; exact Nat.le_trans (Nat.mul_le_mul_right _ (Nat.le_add_right _ _)) hwl⟩, relL_cons ?_ relL_nil⟩
   have := RelV.sl_mk (G := G0 W) (σ := σ0) (w := W) (xs := ds) (A := some ⟨b, o, none⟩) (c := cap) (st := P.cellsOf e) (by omega) (fun x hx => (h2 x hx).2)
    (.inr ⟨b, o, rfl, by simp [G0, hbW], vs, h4, h5⟩)
   rw [h1] at this
   exact this

end
end Go.Val
end

section
namespace Go.Val
open Go.RowKit
set_option linter.unusedSimpArgs false
set_option linter.unusedVariables false
section
variable {P : Program} {W : World} {t : TypeId}

def ReadFs (P : Program) (W : World) : List (TypeId × Nat) → Nat → List (DV → Prop) → Prop
  | [], _, Ss => Ss = []
  | (ft, off) :: fs, at_, Ss => ∃ S Ss', Ss = S :: Ss' ∧ off = at_ ∧ Reads P W ft S ∧ ReadFs P W fs (at_ + P.cellsOf ft) Ss'

theorem Reads.struct {fs : Array Field} {l : List (TypeId × Nat)} {Ss : List (DV → Prop)} (hu : P.underlying t = some (.struct fs)) (hl : fs.toList.map (fun f => (f.type, f.offset)) = l) (h : ReadFs P W l 0 Ss) (hz : (l.map fun f => P.cellsOf f.1).sum = P.cellsOf t) :
    Reads P W t (fun d => ∃ ds, d = .agg (flat ds) ∧ ds.length = Ss.length ∧ ∀ (i : Nat) S x, Ss[i]? = some S → ds[i]? = some x → S x) := by
  intro H enc base spare held fuel cs x hx hw0
  obtain ⟨xs, n, _, rfl, hlen, hxl, hf⟩ := DataW.trod_struct hu hx
  have key : ∀ (l : List (TypeId × Nat)) (at_ : Nat) (Ss : List (DV → Prop)) (k : Nat), ReadFs P W l at_ Ss → (∀ i f, l[i]? = some f → ∃ F : Field, fs[k + i]? = some F ∧ F.type = f.1 ∧ F.offset = f.2) → at_ + (l.map fun f => P.cellsOf f.1).sum = cs.length → k + l.length ≤ fs.size →
      ∃ ds : List DV, ds.length = Ss.length ∧ (∀ (i : Nat) S x, Ss[i]? = some S → ds[i]? = some x → S x) ∧ RelL (G0 W) σ0 W (flat ds) (cs.drop at_) := by
    intro l
    induction l with
    | nil =>
      intro at_ Ss k hR _ hsum _
      have hR : Ss = [] := hR
      subst hR
      simp only [List.map_nil, List.sum_nil, Nat.add_zero] at hsum
      refine ⟨[], rfl, fun i S x h => by simp at h, ?_⟩
      rw [List.drop_of_length_le (by omega)]
      exact relL_nil
    | cons f l ih =>
      intro at_ Ss k hR hF hsum hk
      obtain ⟨ft, off⟩ := f
      obtain ⟨S, Ss', rfl, hoff, hrd, hrest⟩ := hR
      subst hoff
      obtain ⟨F, hF1, hF2, hF3⟩ := hF 0 (ft, off) rfl
      simp only at hF2 hF3
      rw [Nat.add_zero] at hF1
      have h1 := hf k F hF1
      have hkx : k < xs.length := by rw [hxl]; exact (Array.getElem?_eq_some_iff.1 hF1).1
      rw [List.getElem?_eq_getElem hkx, hF2, hF3] at h1
      obtain ⟨d, hd, hrel⟩ := hrd H enc base spare held n _ _ h1 (fun m hm => hw0 m (by
        show _ ∈ DataW.weights P t (.agg _)
        simp only [DataW.weights, hu]
        exact DataW.weights_mem_each (j := k) (t := ft) (d := (xs[k]).1) (by rw [List.getElem?_map, Array.getElem?_toList, hF1]; simp [hF2]) (by rw [List.getElem?_map, List.getElem?_eq_getElem hkx]; rfl) m hm))
      simp only [List.map_cons, List.sum_cons] at hsum
      simp only [List.length_cons] at hk
      obtain ⟨ds, e1, e2, e3⟩ := ih (off + P.cellsOf ft) Ss' (k + 1) hrest (fun i f h => by
        obtain ⟨F', a, b, c⟩ := hF (i + 1) f (by simpa using h)
        exact ⟨F', by rw [← a]; congr 1; omega, b, c⟩) (by omega) (by omega)
      refine ⟨d :: ds, by simp [e1], fun i S' x hS hx => ?_, ?_⟩
      · cases i with
        | zero => simp at hS hx; subst hS; subst hx; exact hd
        | succ i => simp at hS hx; exact e2 i S' x hS hx
      · rw [flat_cons]
        have hsplit : cs.drop off = (cs.drop off).take (P.cellsOf ft) ++ cs.drop (off + P.cellsOf ft) := by
          rw [← List.drop_drop, List.take_append_drop]
        rw [hsplit]
        exact hrel.append e3
  obtain ⟨ds, e1, e2, e3⟩ := key l 0 Ss 0 h (fun i f hi => by
    rw [← hl, List.getElem?_map] at hi
    cases hq : fs.toList[i]? with
    | none => rw [hq] at hi; simp at hi
    | some F =>
      rw [hq] at hi
      simp only [Option.map_some, Option.some.injEq] at hi
      subst hi
      exact ⟨F, by rw [Nat.zero_add, ← Array.getElem?_toList]; exact hq, rfl, rfl⟩) (by rw [Nat.zero_add, hz, hlen]) (by rw [← hl]; simp)
  refine ⟨.agg (flat ds), ⟨ds, rfl, e1, e2⟩, ?_⟩
  simpa [DV.cells] using e3

theorem Reads.bool (hu : P.underlying t = some .bool) : Reads P W t (fun d => ∃ b, d = .bool b) := by
  intro H enc base spare held fuel cs x h hw0
  obtain ⟨s, rfl, _⟩ := DataW.trod_bool hu h
  exact ⟨.bool s, ⟨_, rfl⟩, relL_cons (.bool s) relL_nil⟩

def IsInts (ks : List IntKind) (d : DV) : Prop := ∃ ns : List Int, ns.length = ks.length ∧ d = .agg ((ks.zip ns).map fun p => .int p.1 p.2) ∧ ∀ (i : Nat) k n, ks[i]? = some k → ns[i]? = some n → (Lit.int k n).wf = true
end
end Go.Val
end

section
namespace Go.Val
open Go.RowKit
set_option linter.unusedSimpArgs false
set_option linter.unusedVariables false
section
variable {P : Program} {W : World} {t e : TypeId} {α β : Type}

def ReadsT (P : Program) (W : World) (t : TypeId) {α : Type} (f : α → DV) (w : α → Prop) : Prop := Reads P W t (fun d => ∃ a, d = f a ∧ w a)
theorem ReadsT.int {k : IntKind} (hu : P.underlying t = some (.int k)) : ReadsT P W t (fun n : Int => .int k n) (fun n => (Lit.int k n).wf = true) := by
 intro H enc base spare held fuel cs x h hw0
 obtain ⟨_, ⟨n, rfl, hw⟩, hr⟩ := Reads.int hu H enc base spare held fuel cs x h hw0
 exact ⟨_, ⟨n, rfl, hw⟩, hr⟩
theorem ReadsT.byte (hu : P.underlying t = some (.int .u8)) : ReadsT P W t (fun b : UInt8 => .int .u8 (b.toNat : Int)) (fun _ => True) := by
 intro H enc base spare held fuel cs x h hw0
 obtain ⟨_, ⟨n, rfl⟩, hr⟩ := Reads.byte hu H enc base spare held fuel cs x h hw0
 exact ⟨_, ⟨n, rfl, trivial⟩, hr⟩
theorem ReadsT.bool (hu : P.underlying t = some .bool) : ReadsT P W t (fun b : Bool => .bool b) (fun _ => True) := by
 intro H enc base spare held fuel cs x h hw0
 obtain ⟨_, ⟨n, rfl⟩, hr⟩ := Reads.bool hu H enc base spare held fuel cs x h hw0
 exact ⟨_, ⟨n, rfl, trivial⟩, hr⟩
theorem ReadsT.str (hu : P.underlying t = some .string) : ReadsT P W t (fun s : List UInt8 => .str s) (fun s => s.length ≤ 9223372036854775807) := by
 intro H enc base spare held fuel cs x h hw0
 obtain ⟨s, rfl, hl⟩ := DataW.trod_string hu h
 refine ⟨.str s.data.toList, ⟨_, rfl, ?_⟩, relL_cons ?_ relL_nil⟩
 ·first | (simpa [maxLen] using hl.2) | (simpa [maxLen] using hl) | (have := hl.1; simpa [maxLen] using this)
 ·have := RelV.str (G := G0 W) (σ := σ0) (w := W) s.data.toList
  simpa using this
theorem map_ex {f : α → DV} {w : α → Prop} : ∀ {ds : List DV}, (∀ x ∈ ds, ∃ a, x = f a ∧ w a) → ∃ l : List α, ds = l.map f ∧ ∀ a ∈ l, w a
 | [], _ => ⟨[], rfl, by simp⟩
 | d :: ds, h => by
  obtain ⟨a, rfl, ha⟩ := h d (by simp)
  obtain ⟨l, rfl, hl⟩ := map_ex (ds := ds) (fun x hx => h x (by simp [hx]))
  exact ⟨a :: l, rfl, by intro b hb; rcases List.mem_cons.1 hb with rfl | hb; exact ha; exact hl b hb⟩
theorem ReadsT.slice {f : α → DV} {w : α → Prop} (hu : P.underlying t = some (.slice e)) (hs : 0 < P.cellsOf e) (he : ReadsT P W e f w) : ReadsT P W t (fun l : List α => .sl (l.map f)) (fun l => (∀ a ∈ l, w a) ∧ l.length * P.bytesOf e ≤ reachBytes) := by
 intro H enc base spare held fuel cs x h hw0
 obtain ⟨_, ⟨ds, rfl, hd, hlb⟩, hr⟩ := Reads.slice hu hs he H enc base spare held fuel cs x h hw0
 obtain ⟨l, rfl, hl⟩ := map_ex hd
 exact ⟨_, ⟨l, rfl, hl, by simpa using hlb⟩, hr⟩
theorem ReadsT.to {f : α → DV} {w : α → Prop} {g : β → DV} {u : β → Prop} (h : ReadsT P W t f w) (k : ∀ a, w a → ∃ b, f a = g b ∧ u b) : ReadsT P W t g u := by
 intro H enc base spare held fuel cs x hx hw0
 obtain ⟨_, ⟨a, rfl, ha⟩, hr⟩ := h H enc base spare held fuel cs x hx hw0
 obtain ⟨b, hb, hu⟩ := k a ha
 exact ⟨_, ⟨b, hb, hu⟩, hr⟩

theorem ReadsT.one {f : α → DV} {w : α → Prop} (r : ReadsT P W t f w) {H : Type} {enc : TypeId × Value → H} {v : Value} {d : DataW H} {p : List MemPlace} {spare : Nat → Bool} {held : Bool} {base : Nat} (h : DataW.Trod enc P W base spare held t v d p)
  (hc : ∀ a, (∃ cs, f a = .agg cs ∧ ∃ z, v = .agg z) ∨ ((f a).cells = [f a] ∧ v.cells = #[v])) (hw : ∀ n ∈ d.weights P t, n ≤ reachBytes) : ∃ a, w a ∧ RelV (G0 W) σ0 W (f a) v := by
 obtain ⟨fuel, hf⟩ := h
 obtain ⟨_, ⟨a, rfl, ha⟩, hr⟩ := r H enc base spare held fuel _ _ hf hw
 refine ⟨a, ha, ?_⟩
 rcases hc a with ⟨cs, h1, z, rfl⟩ | ⟨h1, h2⟩
 ·rw [h1] at hr ⊢
  have e : (⟨z.toList⟩ : Array Value) = z := by cases z; rfl
  rw [← e]
  exact .agg _ _ hr.1 hr.2
 ·rw [h1, h2] at hr
  exact hr.2 0 _ _ rfl rfl
end
end Go.Val
end
