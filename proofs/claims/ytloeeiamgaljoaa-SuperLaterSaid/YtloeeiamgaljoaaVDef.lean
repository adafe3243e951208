/- The values of a program's run as plain data, how they lie in memory, and what stays when the world goes on. -/
import Derived.Below
import Derived.LoopN
import Derived.Laws.World
import Derived.Laws.Sem
namespace Go.Val
open Go.RowKit

/-- A value as data. 'sl': a slice that is only read; 'slt': one whose capacity is its length; 'row': a handle of a row that may grow; 'ptr': the place of a variable; 'cp': a pointer to cells that stay as they are; 'rp': the place of a cell of a row that may be written. -/
inductive DV where
  | undef
  | int (k : IntKind) (n : Int)
  | bool (b : Bool)
  | str (s : List UInt8)
  | agg (cs : List DV)
  | tup (vs : List DV)
  | sl (xs : List DV)
  | slt (xs : List DV)
  | row (id len : Nat)
  | ptr (b off : Nat)
  | cp (cs : List DV)
  | rp (id len i off : Nat)
  | nilp
  | fn (f : Fn) (first captured : List DV)
  | nilfn
  | mp (id : Nat)
  | cm (ks vs : List DV)
  | it (id : Nat)
  deriving Inhabited

def DV.cells : DV → List DV
  | .agg cs => cs
  | x => [x]

/-- The cells of elements that lie one behind the other. -/
def flat (xs : List DV) : List DV := xs.flatMap DV.cells

inductive Owner where
  | free | imm | row (id : Nat) | box (id : Nat) | map (id : Nat)
  deriving DecidableEq

/-- Who may write which block; where rows, variables and maps lie. -/
structure Gh where
  own : Nat → Owner
  rowV : Nat → Value
  boxB : Nat → Nat
  mapB : Nat → Nat

structure Row where
  xs : List DV
  e : TypeId
  st : Nat

structure Box where
  ty : TypeId
  cs : List DV

structure Store where
  rows : List (Option Row)
  boxes : List (Option Box)
  maps : List (Option (List (DV × DV)))

/-- What a value is in a world. -/
inductive RelV (G : Gh) (σ : Store) (w : World) : DV → Value → Prop
  | undef (v : Value) : RelV G σ w .undef v
  | int (k : IntKind) (n : Int) : RelV G σ w (.int k n) (.int k n)
  | bool (b : Bool) : RelV G σ w (.bool b) (.bool b)
  | str (s : List UInt8) : RelV G σ w (.str s) (.string ⟨s.toArray⟩)
  | agg (cs : List DV) (vs : List Value) (hl : vs.length = cs.length) (h : ∀ (i : Nat) c v, cs[i]? = some c → vs[i]? = some v → RelV G σ w c v) : RelV G σ w (.agg cs) (.agg vs.toArray)
  | tup (cs : List DV) (vs : List Value) (hl : vs.length = cs.length) (h : ∀ (i : Nat) c v, cs[i]? = some c → vs[i]? = some v → RelV G σ w c v) : RelV G σ w (.tup cs) (.tuple vs.toArray)
  | sl (xs : List DV) (A : Option Addr) (n c st b o : Nat) (vs : Nat → Value) (hn : n = xs.length) (hc : n ≤ c)
      (hA : xs = [] ∨ (A = some ⟨b, o, none⟩ ∧ G.own b = .imm)) (hst : ∀ x ∈ xs, x.cells.length = st)
      (hm : ∀ i, i < (flat xs).length → w.cell? ⟨b, o + i, none⟩ = some (vs i))
      (hr : ∀ (i : Nat) d, (flat xs)[i]? = some d → RelV G σ w d (vs i)) : RelV G σ w (.sl xs) (.slice A n c)
  | slt (xs : List DV) (A : Option Addr) (n st b o : Nat) (vs : Nat → Value) (hn : n = xs.length)
      (hA : xs = [] ∨ (A = some ⟨b, o, none⟩ ∧ G.own b = .imm)) (hst : ∀ x ∈ xs, x.cells.length = st)
      (hm : ∀ i, i < (flat xs).length → w.cell? ⟨b, o + i, none⟩ = some (vs i))
      (hr : ∀ (i : Nat) d, (flat xs)[i]? = some d → RelV G σ w d (vs i)) : RelV G σ w (.slt xs) (.slice A n n)
  | row (id len : Nat) (v : Value) (hid : id < σ.rows.length) (hle : ∀ R, σ.rows[id]? = some (some R) → len ≤ R.xs.length)
      (h : ∀ R, σ.rows[id]? = some (some R) → R.xs.length = len → v = G.rowV id) : RelV G σ w (.row id len) v
  | ptr (b off : Nat) (hb : b < σ.boxes.length) : RelV G σ w (.ptr b off) (.pointer (some ⟨G.boxB b, off, none⟩))
  | cp (cs : List DV) (b o : Nat) (vs : Nat → Value) (him : G.own b = .imm)
      (hm : ∀ i, i < cs.length → w.cell? ⟨b, o + i, none⟩ = some (vs i))
      (hr : ∀ (i : Nat) d, cs[i]? = some d → RelV G σ w d (vs i)) : RelV G σ w (.cp cs) (.pointer (some ⟨b, o, none⟩))
  | rp (id len i off : Nat) (v : Value) (hid : id < σ.rows.length) (hle : ∀ R, σ.rows[id]? = some (some R) → len ≤ R.xs.length)
      (h : ∀ R, σ.rows[id]? = some (some R) → R.xs.length = len → ∃ g n c, G.rowV id = .slice (some ⟨g, 0, none⟩) n c ∧ v = .pointer (some ⟨g, i * R.st + off, none⟩)) : RelV G σ w (.rp id len i off) v
  | nilp : RelV G σ w .nilp (.pointer none)
  | fn (f : Fn) (fs cs : List DV) (us vs : List Value) (hf : us.length = fs.length) (hF : ∀ (i : Nat) c v, fs[i]? = some c → us[i]? = some v → RelV G σ w c v)
      (hl : vs.length = cs.length) (h : ∀ (i : Nat) c v, cs[i]? = some c → vs[i]? = some v → RelV G σ w c v) : RelV G σ w (.fn f fs cs) (.func f us.toArray vs.toArray)
  | nilfn : RelV G σ w .nilfn .nilFunc
  | mp (id : Nat) (hid : id < σ.maps.length) : RelV G σ w (.mp id) (.map (some (G.mapB id)))
  | cm (ks vs : List DV) (k clock : Nat) (es : Array MapEntry) (him : G.own k = .imm) (hh : w.heap[k]? = some (.map es clock)) (h1 : es.size = ks.length) (h2 : es.size = vs.length)
      (hk : ∀ (i : Nat) d e, ks[i]? = some d → es[i]? = some e → RelV G σ w d e.key) (hv : ∀ (i : Nat) d e, vs[i]? = some d → es[i]? = some e → RelV G σ w d e.val)
      (hb : ∀ (i : Nat) e, es[i]? = some e → e.born < clock) (hn : ∀ (i j : Nat) e f, es[i]? = some e → es[j]? = some f → e.born = f.born → i = j) : RelV G σ w (.cm ks vs) (.map (some k))
  | it (id : Nat) (hid : id < σ.maps.length) : RelV G σ w (.it id) (.pointer (some ⟨G.mapB id, 0, none⟩))

/-- Values one by one. -/
def RelL (G : Gh) (σ : Store) (w : World) (cs : List DV) (vs : List Value) : Prop :=
  vs.length = cs.length ∧ ∀ (i : Nat) c v, cs[i]? = some c → vs[i]? = some v → RelV G σ w c v

/-- No cell of these may not be written. -/
def NoFr (fr : Nat × Nat) (n : Nat) : Prop := ∀ k, k < n → ¬ (fr.1 ≤ k ∧ k < fr.2)

def RowRel (G : Gh) (σ : Store) (w : World) (id : Nat) (R : Row) : Prop :=
  0 < R.st ∧ (∀ x ∈ R.xs, x.cells.length = R.st) ∧ ∃ A n c, G.rowV id = .slice A n c ∧ n = R.xs.length ∧ n ≤ c ∧
    (c = 0 ∨ ∃ g arr fr, A = some ⟨g, 0, none⟩ ∧ G.own g = .row id ∧ w.heap[g]? = some (.cells arr R.e fr) ∧ NoFr fr arr.size ∧ arr.size = c * R.st ∧
      ∀ (i : Nat) d v, (flat R.xs)[i]? = some d → arr[i]? = some v → RelV G σ w d v)

def BoxRel (G : Gh) (σ : Store) (w : World) (id : Nat) (B : Box) : Prop :=
  G.own (G.boxB id) = .box id ∧ ∃ arr, w.heap[G.boxB id]? = some (.cells arr B.ty (0, 0)) ∧ RelL G σ w B.cs arr.toList

/-- A map that is gone through is kept so: what it has, and which of it has come. -/
def iterL (ks vs : List DV) (is : List Nat) : List (DV × DV) := (.nilfn, .cm ks vs) :: is.map fun (i : Nat) => (.int .i64 (i : Int), .nilfn)
def isIter : List (DV × DV) → Bool
  | (.nilfn, _) :: _ => true
  | _ => false
def IterRel (G : Gh) (σ : Store) (w : World) (id : Nat) (M : List (DV × DV)) : Prop :=
  ∃ ks vs is k es clock since last seen, M = iterL ks vs is ∧ RelV G σ w (.cm ks vs) (.map (some k)) ∧ w.heap[k]? = some (.map es clock) ∧ w.heap[G.mapB id]? = some (.mapIter (some k) since seen last) ∧
    (∀ (i : Nat) e, es[i]? = some e → e.born < since) ∧ since ≤ last ∧ seen.toList = is.map (fun i => ((es[i]?).map (·.born)).getD 0) ∧ (∀ i ∈ is, i < es.size) ∧ (is ≠ [] → last = clock)
def PlainRel (G : Gh) (σ : Store) (w : World) (id : Nat) (M : List (DV × DV)) : Prop :=
  isIter M = false ∧ ∃ es clock, w.heap[G.mapB id]? = some (.map es clock) ∧
    es.size = M.length ∧ (∀ (i : Nat) e m, es[i]? = some e → M[i]? = some m → RelV G σ w m.1 e.key ∧ RelV G σ w m.2 e.val) ∧
    (∀ (i : Nat) e, es[i]? = some e → e.born < clock) ∧ (∀ (i j : Nat) e f, es[i]? = some e → es[j]? = some f → e.born = f.born → i = j)

def MapRel (G : Gh) (σ : Store) (w : World) (id : Nat) (M : List (DV × DV)) : Prop :=
  G.own (G.mapB id) = .map id ∧ (PlainRel G σ w id M ∨ IterRel G σ w id M)

structure StoreRel (w0 : World) (G : Gh) (σ : Store) (w : World) : Prop where
  below : Below w0.heap.size w0 w
  lt : ∀ k, G.own k ≠ .free → k < w.heap.size
  trk : ∀ k, G.own k ≠ .free → G.own k ≠ .imm → w0.heap.size ≤ k
  rows : ∀ id R, σ.rows[id]? = some (some R) → RowRel G σ w id R
  boxes : ∀ id B, σ.boxes[id]? = some (some B) → BoxRel G σ w id B
  maps : ∀ id M, σ.maps[id]? = some (some M) → MapRel G σ w id M

/-- The world has gone on: what stays as it is has stayed; handles say what they said, or nothing. -/
structure Ext (G : Gh) (σ : Store) (w : World) (G' : Gh) (σ' : Store) (w' : World) : Prop where
  imm : ∀ k, G.own k = .imm → G'.own k = .imm ∧ w'.heap[k]? = w.heap[k]?
  rowsLen : σ.rows.length ≤ σ'.rows.length
  boxesLen : σ.boxes.length ≤ σ'.boxes.length
  mapsLen : σ.maps.length ≤ σ'.maps.length
  rowV : ∀ id R', id < σ.rows.length → σ'.rows[id]? = some (some R') →
    ∃ R, σ.rows[id]? = some (some R) ∧ R.st = R'.st ∧ R.xs.length ≤ R'.xs.length ∧ (R.xs.length = R'.xs.length → G'.rowV id = G.rowV id)
  boxB : ∀ id, id < σ.boxes.length → G'.boxB id = G.boxB id
  mapB : ∀ id, id < σ.maps.length → G'.mapB id = G.mapB id

theorem Ext.refl (G : Gh) (σ : Store) (w : World) : Ext G σ w G σ w :=
  ⟨fun _ h => ⟨h, rfl⟩, Nat.le_refl _, Nat.le_refl _, Nat.le_refl _, fun _ R _ h => ⟨R, h, rfl, Nat.le_refl _, fun _ => rfl⟩, fun _ _ => rfl, fun _ _ => rfl⟩

theorem Ext.trans {G : Gh} {σ : Store} {w : World} {G1 : Gh} {σ1 : Store} {w1 : World} {G2 : Gh} {σ2 : Store} {w2 : World}
    (h : Ext G σ w G1 σ1 w1) (k : Ext G1 σ1 w1 G2 σ2 w2) : Ext G σ w G2 σ2 w2 := by
  refine ⟨fun i hi => ?_, Nat.le_trans h.rowsLen k.rowsLen, Nat.le_trans h.boxesLen k.boxesLen, Nat.le_trans h.mapsLen k.mapsLen, fun id R2 hid hR2 => ?_, fun id hid => ?_, fun id hid => ?_⟩
  · obtain ⟨a, b⟩ := h.imm i hi
    obtain ⟨c, d⟩ := k.imm i a
    exact ⟨c, d.trans b⟩
  · obtain ⟨R1, hR1, e1, l1, v1⟩ := k.rowV id R2 (Nat.lt_of_lt_of_le hid h.rowsLen) hR2
    obtain ⟨R, hR, e2, l2, v2⟩ := h.rowV id R1 hid hR1
    refine ⟨R, hR, e2.trans e1, Nat.le_trans l2 l1, fun he => ?_⟩
    rw [v1 (by omega), v2 (by omega)]
  · rw [k.boxB id (Nat.lt_of_lt_of_le hid h.boxesLen), h.boxB id hid]
  · rw [k.mapB id (Nat.lt_of_lt_of_le hid h.mapsLen), h.mapB id hid]

theorem cell_of_heap {w w' : World} {b o : Nat} {v : Value} (h : w'.heap[b]? = w.heap[b]?) (hc : w.cell? ⟨b, o, none⟩ = some v) : w'.cell? ⟨b, o, none⟩ = some v := by
  rw [← hc]; simp only [World.cell?, h]

theorem RelV.ext {G : Gh} {σ : Store} {w : World} {G' : Gh} {σ' : Store} {w' : World} (hx : Ext G σ w G' σ' w') {d : DV} {v : Value} (h : RelV G σ w d v) : RelV G' σ' w' d v := by
  induction h with
  | undef v => exact .undef v
  | int k n => exact .int k n
  | bool b => exact .bool b
  | str s => exact .str s
  | agg cs vs hl _ ih => exact .agg cs vs hl ih
  | tup cs vs hl _ ih => exact .tup cs vs hl ih
  | sl xs A n c st b o vs hn hc hA hst hm hr ih =>
    rcases hA with rfl | ⟨hA, hi⟩
    · exact .sl [] A n c st b o vs hn hc (.inl rfl) (by simp) (by simp [flat]) (by simp [flat])
    · exact .sl xs A n c st b o vs hn hc (.inr ⟨hA, (hx.imm b hi).1⟩) hst (fun i hi' => cell_of_heap (hx.imm b hi).2 (hm i hi')) ih
  | slt xs A n st b o vs hn hA hst hm hr ih =>
    rcases hA with rfl | ⟨hA, hi⟩
    · exact .slt [] A n st b o vs hn (.inl rfl) (by simp) (by simp [flat]) (by simp [flat])
    · exact .slt xs A n st b o vs hn (.inr ⟨hA, (hx.imm b hi).1⟩) hst (fun i hi' => cell_of_heap (hx.imm b hi).2 (hm i hi')) ih
  | row id len v hid hle h =>
    refine .row id len v (Nat.lt_of_lt_of_le hid hx.rowsLen) (fun R' hR' => ?_) (fun R' hR' he => ?_)
    · obtain ⟨R, hR, _, hl, _⟩ := hx.rowV id R' hid hR'
      exact Nat.le_trans (hle R hR) hl
    · obtain ⟨R, hR, _, hl, hv⟩ := hx.rowV id R' hid hR'
      have := hle R hR
      rw [hv (by omega)]
      exact h R hR (by omega)
  | ptr b off hb => rw [← hx.boxB b hb]; exact .ptr b off (Nat.lt_of_lt_of_le hb hx.boxesLen)
  | cp cs b o vs him hm hr ih => exact .cp cs b o vs (hx.imm b him).1 (fun i hi' => cell_of_heap (hx.imm b him).2 (hm i hi')) ih
  | rp id len i off v hid hle h =>
    refine .rp id len i off v (Nat.lt_of_lt_of_le hid hx.rowsLen) (fun R' hR' => ?_) (fun R' hR' he => ?_)
    · obtain ⟨R, hR, _, hl, _⟩ := hx.rowV id R' hid hR'
      exact Nat.le_trans (hle R hR) hl
    · obtain ⟨R, hR, hs, hl, hv⟩ := hx.rowV id R' hid hR'
      have := hle R hR
      rw [hv (by omega), ← hs]
      exact h R hR (by omega)
  | nilp => exact .nilp
  | fn f fs cs us vs hf _ hl _ ihF ih => exact .fn f fs cs us vs hf ihF hl ih
  | nilfn => exact .nilfn
  | mp id hid => rw [← hx.mapB id hid]; exact .mp id (Nat.lt_of_lt_of_le hid hx.mapsLen)
  | cm ks vs k clock es him hh h1 h2 hk hv hb hn ihk ihv => exact .cm ks vs k clock es (hx.imm k him).1 (by rw [(hx.imm k him).2]; exact hh) h1 h2 ihk ihv hb hn
  | it id hid => rw [← hx.mapB id hid]; exact .it id (Nat.lt_of_lt_of_le hid hx.mapsLen)

theorem RelL.ext {G : Gh} {σ : Store} {w : World} {G' : Gh} {σ' : Store} {w' : World} (hx : Ext G σ w G' σ' w') {cs : List DV} {vs : List Value} (h : RelL G σ w cs vs) : RelL G' σ' w' cs vs :=
  ⟨h.1, fun i c v hc hv => (h.2 i c v hc hv).ext hx⟩
theorem RelL.get {G : Gh} {σ : Store} {w : World} {cs : List DV} {vs : List Value} (h : RelL G σ w cs vs) {i : Nat} {c : DV} (hc : cs[i]? = some c) : ∃ v, vs[i]? = some v ∧ RelV G σ w c v := by
  have hi : i < vs.length := by rw [h.1]; exact (List.getElem?_eq_some_iff.1 hc).1
  exact ⟨vs[i], List.getElem?_eq_getElem hi, h.2 i c _ hc (List.getElem?_eq_getElem hi)⟩
theorem RelL.nil {G : Gh} {σ : Store} {w : World} : RelL G σ w [] [] := ⟨rfl, by simp⟩
theorem RelL.cons {G : Gh} {σ : Store} {w : World} {c : DV} {cs : List DV} {v : Value} {vs : List Value} (h : RelV G σ w c v) (hs : RelL G σ w cs vs) : RelL G σ w (c :: cs) (v :: vs) := by
  refine ⟨by simp [hs.1], fun i d u hd hu => ?_⟩
  cases i with
  | zero => simp at hd hu; subst hd; subst hu; exact h
  | succ i => simp at hd hu; exact hs.2 i d u hd hu
theorem RelL.append {G : Gh} {σ : Store} {w : World} {cs ds : List DV} {vs us : List Value} (h : RelL G σ w cs vs) (k : RelL G σ w ds us) : RelL G σ w (cs ++ ds) (vs ++ us) := by
  refine ⟨by simp [h.1, k.1], fun i d u hd hu => ?_⟩
  rcases Nat.lt_or_ge i cs.length with hi | hi
  · rw [List.getElem?_append_left hi] at hd
    rw [List.getElem?_append_left (by rw [h.1]; exact hi)] at hu
    exact h.2 i d u hd hu
  · rw [List.getElem?_append_right hi] at hd
    rw [List.getElem?_append_right (by rw [h.1]; exact hi), h.1] at hu
    exact k.2 _ d u hd hu
theorem RelL.set {G : Gh} {σ : Store} {w : World} {cs : List DV} {vs : List Value} (h : RelL G σ w cs vs) (i : Nat) {c : DV} {v : Value} (hv : RelV G σ w c v) : RelL G σ w (cs.set i c) (vs.set i v) := by
  refine ⟨by simp [h.1], fun j d u hd hu => ?_⟩
  by_cases hj : j = i
  · subst hj
    have hl : j < cs.length := by have := (List.getElem?_eq_some_iff.1 hd).1; simpa using this
    rw [List.getElem?_set_self hl] at hd
    rw [List.getElem?_set_self (by rw [h.1]; exact hl)] at hu
    injection hd with hd; injection hu with hu; subst hd; subst hu; exact hv
  · rw [List.getElem?_set_ne (Ne.symm hj)] at hd hu
    exact h.2 j d u hd hu
theorem RelL.take {G : Gh} {σ : Store} {w : World} {cs : List DV} {vs : List Value} (h : RelL G σ w cs vs) (n : Nat) : RelL G σ w (cs.take n) (vs.take n) := by
  refine ⟨by simp [h.1], fun i d u hd hu => ?_⟩
  rw [List.getElem?_take] at hd hu
  split at hd <;> rename_i hi
  · rw [if_pos hi] at hu; exact h.2 i d u hd hu
  · simp at hd
theorem RelL.drop {G : Gh} {σ : Store} {w : World} {cs : List DV} {vs : List Value} (h : RelL G σ w cs vs) (n : Nat) : RelL G σ w (cs.drop n) (vs.drop n) := by
  refine ⟨by simp [h.1], fun i d u hd hu => ?_⟩
  rw [List.getElem?_drop] at hd hu
  exact h.2 _ d u hd hu

/-- A value's cells. -/
theorem RelV.cells {G : Gh} {σ : Store} {w : World} {d : DV} {v : Value} (h : RelV G σ w d v) (hu : d ≠ .undef) (hr : ∀ i l, d ≠ .row i l) (hp : ∀ i l j o, d ≠ .rp i l j o) : RelL G σ w d.cells v.cells.toList := by
  cases h with
  | undef => exact absurd rfl hu
  | agg cs vs hl h => exact ⟨by simpa [Value.cells, DV.cells] using hl, by simpa [Value.cells, DV.cells] using h⟩
  | row id len v => exact absurd rfl (hr id len)
  | rp id len i off v => exact absurd rfl (hp id len i off)
  | _ => exact .cons (by constructor <;> assumption) .nil
end Go.Val
