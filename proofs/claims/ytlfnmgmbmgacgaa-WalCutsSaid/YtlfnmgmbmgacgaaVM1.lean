/- The values of a program's run as plain data, how they lie in memory, and what stays when the world goes on. The operations that only read, on values as data: what each answers, and that the machine answers the same. The machine answers what the operations on data say: reading memory, fields, elements, cuts, conversions. Cuts, conversions, lengths, values built; and one function for all operations without a trace. Conversions, values built, lengths; one function for all operations without a trace, and that the machine does what it says. Values built out of parts; one function for all operations without a trace. Code on values as data: what a piece of code comes to, and the rules by which it is shown. -/
import Derived.Below
import Derived.LoopN
import Derived.Laws.World
import Derived.Laws.Sem
import Derived.Laws.Cells
import Derived.Laws.Entries
import Derived.Laws.Rows
import Derived.Laws.Strings
import Derived.Laws.StructEq
import Derived.Lib.Strings
import Derived.Orders
import Derived.Laws.BytesArg
import Derived.Calls
import Derived.RangeFuncLeaves
import Derived.RangeFuncRecord
import Derived.Tactics
section
namespace Go.Val
open Go.RowKit

inductive DV where
 | undef
 | int (k : IntKind) (n : Int)
 | bool (b : Bool)
 | str (s : List UInt8)
 | agg (cs : List DV)
 | tup (vs : List DV)
 | sl (xs : List DV)
 | slt (xs : List DV)
 | row (id len : Nat)
 | ptr (b off : Nat)
 | cp (cs : List DV)
 | rp (id len i off : Nat)
 | nilp
 | fn (f : Fn) (first captured : List DV)
 | nilfn
 | mp (id : Nat)
 | cm (ks vs : List DV)
 | it (id : Nat)
 deriving Inhabited

def DV.cells : DV → List DV
 | .agg cs => cs
 | x => [x]

def flat (xs : List DV) : List DV := xs.flatMap DV.cells

inductive Owner where
 | free | imm | row (id : Nat) | box (id : Nat) | map (id : Nat) | dfr (n : Nat)
 deriving DecidableEq

structure Gh where
 own : Nat → Owner
 rowV : Nat → Value
 boxB : Nat → Nat
 mapB : Nat → Nat

structure Row where
 xs : List DV
 e : TypeId
 st : Nat

structure Box where
 ty : TypeId
 cs : List DV

structure Store where
 rows : List (Option Row)
 boxes : List (Option Box)
 maps : List (Option (List (DV × DV)))

inductive RelV (G : Gh) (σ : Store) (w : World) : DV → Value → Prop
 | undef (v : Value) : RelV G σ w .undef v
 | int (k : IntKind) (n : Int) : RelV G σ w (.int k n) (.int k n)
 | bool (b : Bool) : RelV G σ w (.bool b) (.bool b)
 | str (s : List UInt8) : RelV G σ w (.str s) (.string ⟨s.toArray⟩)
 | agg (cs : List DV) (vs : List Value) (hl : vs.length = cs.length) (h : ∀ (i : Nat) c v, cs[i]? = some c → vs[i]? = some v → RelV G σ w c v) : RelV G σ w (.agg cs) (.agg vs.toArray)
 | tup (cs : List DV) (vs : List Value) (hl : vs.length = cs.length) (h : ∀ (i : Nat) c v, cs[i]? = some c → vs[i]? = some v → RelV G σ w c v) : RelV G σ w (.tup cs) (.tuple vs.toArray)
 | sl (xs : List DV) (A : Option Addr) (n c st b o : Nat) (vs : Nat → Value) (hn : n = xs.length) (hc : n ≤ c)
   (hA : xs = [] ∨ (A = some ⟨b, o, none⟩ ∧ G.own b = .imm)) (hst : ∀ x ∈ xs, x.cells.length = st)
   (hm : ∀ i, i < (flat xs).length → w.cell? ⟨b, o + i, none⟩ = some (vs i))
   (hr : ∀ (i : Nat) d, (flat xs)[i]? = some d → RelV G σ w d (vs i)) : RelV G σ w (.sl xs) (.slice A n c)
 | slt (xs : List DV) (A : Option Addr) (n st b o : Nat) (vs : Nat → Value) (hn : n = xs.length)
   (hA : xs = [] ∨ (A = some ⟨b, o, none⟩ ∧ G.own b = .imm)) (hst : ∀ x ∈ xs, x.cells.length = st)
   (hm : ∀ i, i < (flat xs).length → w.cell? ⟨b, o + i, none⟩ = some (vs i))
   (hr : ∀ (i : Nat) d, (flat xs)[i]? = some d → RelV G σ w d (vs i)) : RelV G σ w (.slt xs) (.slice A n n)
 | row (id len : Nat) (v : Value) (hid : id < σ.rows.length) (hle : ∀ R, σ.rows[id]? = some (some R) → len ≤ R.xs.length)
   (h : ∀ R, σ.rows[id]? = some (some R) → R.xs.length = len → v = G.rowV id) : RelV G σ w (.row id len) v
 | ptr (b off : Nat) (hb : b < σ.boxes.length) : RelV G σ w (.ptr b off) (.pointer (some ⟨G.boxB b, off, none⟩))
 | cp (cs : List DV) (b o : Nat) (vs : Nat → Value) (him : G.own b = .imm)
   (hm : ∀ i, i < cs.length → w.cell? ⟨b, o + i, none⟩ = some (vs i))
   (hr : ∀ (i : Nat) d, cs[i]? = some d → RelV G σ w d (vs i)) : RelV G σ w (.cp cs) (.pointer (some ⟨b, o, none⟩))
 | rp (id len i off : Nat) (v : Value) (hid : id < σ.rows.length) (hle : ∀ R, σ.rows[id]? = some (some R) → len ≤ R.xs.length)
   (h : ∀ R, σ.rows[id]? = some (some R) → R.xs.length = len → ∃ g n c, G.rowV id = .slice (some ⟨g, 0, none⟩) n c ∧ v = .pointer (some ⟨g, i * R.st + off, none⟩)) : RelV G σ w (.rp id len i off) v
 | nilp : RelV G σ w .nilp (.pointer none)
 | fn (f : Fn) (fs cs : List DV) (us vs : List Value) (hf : us.length = fs.length) (hF : ∀ (i : Nat) c v, fs[i]? = some c → us[i]? = some v → RelV G σ w c v)
   (hl : vs.length = cs.length) (h : ∀ (i : Nat) c v, cs[i]? = some c → vs[i]? = some v → RelV G σ w c v) : RelV G σ w (.fn f fs cs) (.func f us.toArray vs.toArray)
 | nilfn : RelV G σ w .nilfn .nilFunc
 | mp (id : Nat) (hid : id < σ.maps.length) : RelV G σ w (.mp id) (.map (some (G.mapB id)))
 | cm (ks vs : List DV) (k clock : Nat) (es : Array MapEntry) (him : G.own k = .imm) (hh : w.heap[k]? = some (.map es clock)) (h1 : es.size = ks.length) (h2 : es.size = vs.length)
   (hk : ∀ (i : Nat) d e, ks[i]? = some d → es[i]? = some e → RelV G σ w d e.key) (hv : ∀ (i : Nat) d e, vs[i]? = some d → es[i]? = some e → RelV G σ w d e.val)
   (hb : ∀ (i : Nat) e, es[i]? = some e → e.born < clock) (hn : ∀ (i j : Nat) e f, es[i]? = some e → es[j]? = some f → e.born = f.born → i = j) : RelV G σ w (.cm ks vs) (.map (some k))
 | it (id : Nat) (hid : id < σ.maps.length) : RelV G σ w (.it id) (.pointer (some ⟨G.mapB id, 0, none⟩))

def RelL (G : Gh) (σ : Store) (w : World) (cs : List DV) (vs : List Value) : Prop :=
 vs.length = cs.length ∧ ∀ (i : Nat) c v, cs[i]? = some c → vs[i]? = some v → RelV G σ w c v

def NoFr (fr : Nat × Nat) (n : Nat) : Prop := ∀ k, k < n → ¬ (fr.1 ≤ k ∧ k < fr.2)

def RowRel (G : Gh) (σ : Store) (w : World) (id : Nat) (R : Row) : Prop :=
 0 < R.st ∧ (∀ x ∈ R.xs, x.cells.length = R.st) ∧ ∃ A n c, G.rowV id = .slice A n c ∧ n = R.xs.length ∧ n ≤ c ∧
  (c = 0 ∨ ∃ g arr fr, A = some ⟨g, 0, none⟩ ∧ G.own g = .row id ∧ w.heap[g]? = some (.cells arr R.e fr) ∧ NoFr fr arr.size ∧ arr.size = c * R.st ∧
   ∀ (i : Nat) d v, (flat R.xs)[i]? = some d → arr[i]? = some v → RelV G σ w d v)

def BoxRel (G : Gh) (σ : Store) (w : World) (id : Nat) (B : Box) : Prop :=
 G.own (G.boxB id) = .box id ∧ ∃ arr, w.heap[G.boxB id]? = some (.cells arr B.ty (0, 0)) ∧ RelL G σ w B.cs arr.toList

def iterL (ks vs : List DV) (is : List Nat) : List (DV × DV) := (.nilfn, .cm ks vs) :: is.map fun (i : Nat) => (.int .i64 (i : Int), .nilfn)
def isIter : List (DV × DV) → Bool
 | (.nilfn, _) :: _ => true
 | _ => false
def IterRel (G : Gh) (σ : Store) (w : World) (id : Nat) (M : List (DV × DV)) : Prop :=
 ∃ ks vs is k es clock since last seen, M = iterL ks vs is ∧ RelV G σ w (.cm ks vs) (.map (some k)) ∧ w.heap[k]? = some (.map es clock) ∧ w.heap[G.mapB id]? = some (.mapIter (some k) since seen last) ∧
  (∀ (i : Nat) e, es[i]? = some e → e.born < since) ∧ since ≤ last ∧ seen.toList = is.map (fun i => ((es[i]?).map (·.born)).getD 0) ∧ (∀ i ∈ is, i < es.size) ∧ last = clock
def PlainRel (G : Gh) (σ : Store) (w : World) (id : Nat) (M : List (DV × DV)) : Prop :=
 isIter M = false ∧ ∃ es clock, w.heap[G.mapB id]? = some (.map es clock) ∧
  es.size = M.length ∧ (∀ (i : Nat) e m, es[i]? = some e → M[i]? = some m → RelV G σ w m.1 e.key ∧ RelV G σ w m.2 e.val) ∧
  (∀ (i : Nat) e, es[i]? = some e → e.born < clock) ∧ (∀ (i j : Nat) e f, es[i]? = some e → es[j]? = some f → e.born = f.born → i = j)

def MapRel (G : Gh) (σ : Store) (w : World) (id : Nat) (M : List (DV × DV)) : Prop :=
 G.own (G.mapB id) = .map id ∧ (PlainRel G σ w id M ∨ IterRel G σ w id M)

structure StoreRel (w0 : World) (G : Gh) (σ : Store) (w : World) : Prop where
 below : Below w0.heap.size w0 w
 lt : ∀ k, G.own k ≠ .free → k < w.heap.size
 trk : ∀ k, G.own k ≠ .free → G.own k ≠ .imm → w0.heap.size ≤ k
 rows : ∀ id R, σ.rows[id]? = some (some R) → RowRel G σ w id R
 boxes : ∀ id B, σ.boxes[id]? = some (some B) → BoxRel G σ w id B
 maps : ∀ id M, σ.maps[id]? = some (some M) → MapRel G σ w id M

structure Ext (G : Gh) (σ : Store) (w : World) (G' : Gh) (σ' : Store) (w' : World) : Prop where
 imm : ∀ k, G.own k = .imm → G'.own k = .imm ∧ w'.heap[k]? = w.heap[k]?
 rowsLen : σ.rows.length ≤ σ'.rows.length
 boxesLen : σ.boxes.length ≤ σ'.boxes.length
 mapsLen : σ.maps.length ≤ σ'.maps.length
 rowV : ∀ id R', id < σ.rows.length → σ'.rows[id]? = some (some R') →
  ∃ R, σ.rows[id]? = some (some R) ∧ R.st = R'.st ∧ R.xs.length ≤ R'.xs.length ∧ (R.xs.length = R'.xs.length → G'.rowV id = G.rowV id)
 boxB : ∀ id, id < σ.boxes.length → G'.boxB id = G.boxB id
 mapB : ∀ id, id < σ.maps.length → G'.mapB id = G.mapB id
 dfr : ∀ {n : Nat} (k : Nat), G.own k = .dfr n → G'.own k = .dfr n ∧ w'.heap[k]? = w.heap[k]?

theorem Ext.refl (G : Gh) (σ : Store) (w : World) : Ext G σ w G σ w :=
 ⟨fun _ h => ⟨h, rfl⟩, Nat.le_refl _, Nat.le_refl _, Nat.le_refl _, fun _ R _ h => ⟨R, h, rfl, Nat.le_refl _, fun _ => rfl⟩, fun _ _ => rfl, fun _ _ => rfl, fun _ h => ⟨h, rfl⟩⟩

theorem Ext.trans {G : Gh} {σ : Store} {w : World} {G1 : Gh} {σ1 : Store} {w1 : World} {G2 : Gh} {σ2 : Store} {w2 : World}
  (h : Ext G σ w G1 σ1 w1) (k : Ext G1 σ1 w1 G2 σ2 w2) : Ext G σ w G2 σ2 w2 := by
 refine ⟨fun i hi => ?_, Nat.le_trans h.rowsLen k.rowsLen, Nat.le_trans h.boxesLen k.boxesLen, Nat.le_trans h.mapsLen k.mapsLen, fun id R2 hid hR2 => ?_, fun id hid => ?_, fun id hid => ?_, fun i hi => ?_⟩
 ·obtain ⟨a, b⟩ := h.imm i hi
  obtain ⟨c, d⟩ := k.imm i a
  exact ⟨c, d.trans b⟩
 ·obtain ⟨R1, hR1, e1, l1, v1⟩ := k.rowV id R2 (Nat.lt_of_lt_of_le hid h.rowsLen) hR2
  obtain ⟨R, hR, e2, l2, v2⟩ := h.rowV id R1 hid hR1
  refine ⟨R, hR, e2.trans e1, Nat.le_trans l2 l1, fun he => ?_⟩
  rw [v1 (by omega), v2 (by omega)]
 ·rw [k.boxB id (Nat.lt_of_lt_of_le hid h.boxesLen), h.boxB id hid]
 ·rw [k.mapB id (Nat.lt_of_lt_of_le hid h.mapsLen), h.mapB id hid]
 ·obtain ⟨a, b⟩ := h.dfr i hi
  obtain ⟨c, d⟩ := k.dfr i a
  exact ⟨c, d.trans b⟩

theorem cell_of_heap {w w' : World} {b o : Nat} {v : Value} (h : w'.heap[b]? = w.heap[b]?) (hc : w.cell? ⟨b, o, none⟩ = some v) : w'.cell? ⟨b, o, none⟩ = some v := by
 rw [← hc]; simp only [World.cell?, h]

theorem RelV.ext {G : Gh} {σ : Store} {w : World} {G' : Gh} {σ' : Store} {w' : World} (hx : Ext G σ w G' σ' w') {d : DV} {v : Value} (h : RelV G σ w d v) : RelV G' σ' w' d v := by
 induction h with
 | undef v => exact .undef v
 | int k n => exact .int k n
 | bool b => exact .bool b
 | str s => exact .str s
 | agg cs vs hl _ ih => exact .agg cs vs hl ih
 | tup cs vs hl _ ih => exact .tup cs vs hl ih
 | sl xs A n c st b o vs hn hc hA hst hm hr ih =>
  rcases hA with rfl | ⟨hA, hi⟩
  ·exact .sl [] A n c st b o vs hn hc (.inl rfl) (by simp) (by simp [flat]) (by simp [flat])
  ·exact .sl xs A n c st b o vs hn hc (.inr ⟨hA, (hx.imm b hi).1⟩) hst (fun i hi' => cell_of_heap (hx.imm b hi).2 (hm i hi')) ih
 | slt xs A n st b o vs hn hA hst hm hr ih =>
  rcases hA with rfl | ⟨hA, hi⟩
  ·exact .slt [] A n st b o vs hn (.inl rfl) (by simp) (by simp [flat]) (by simp [flat])
  ·exact .slt xs A n st b o vs hn (.inr ⟨hA, (hx.imm b hi).1⟩) hst (fun i hi' => cell_of_heap (hx.imm b hi).2 (hm i hi')) ih
 | row id len v hid hle h =>
  refine .row id len v (Nat.lt_of_lt_of_le hid hx.rowsLen) (fun R' hR' => ?_) (fun R' hR' he => ?_)
  ·obtain ⟨R, hR, _, hl, _⟩ := hx.rowV id R' hid hR'
   exact Nat.le_trans (hle R hR) hl
  ·obtain ⟨R, hR, _, hl, hv⟩ := hx.rowV id R' hid hR'
   have := hle R hR
   rw [hv (by omega)]
   exact h R hR (by omega)
 | ptr b off hb => rw [← hx.boxB b hb]; exact .ptr b off (Nat.lt_of_lt_of_le hb hx.boxesLen)
 | cp cs b o vs him hm hr ih => exact .cp cs b o vs (hx.imm b him).1 (fun i hi' => cell_of_heap (hx.imm b him).2 (hm i hi')) ih
 | rp id len i off v hid hle h =>
  refine .rp id len i off v (Nat.lt_of_lt_of_le hid hx.rowsLen) (fun R' hR' => ?_) (fun R' hR' he => ?_)
  ·obtain ⟨R, hR, _, hl, _⟩ := hx.rowV id R' hid hR'
   exact Nat.le_trans (hle R hR) hl
  ·obtain ⟨R, hR, hs, hl, hv⟩ := hx.rowV id R' hid hR'
   have := hle R hR
   rw [hv (by omega), ← hs]
   exact h R hR (by omega)
 | nilp => exact .nilp
 | fn f fs cs us vs hf _ hl _ ihF ih => exact .fn f fs cs us vs hf ihF hl ih
 | nilfn => exact .nilfn
 | mp id hid => rw [← hx.mapB id hid]; exact .mp id (Nat.lt_of_lt_of_le hid hx.mapsLen)
 | cm ks vs k clock es him hh h1 h2 hk hv hb hn ihk ihv => exact .cm ks vs k clock es (hx.imm k him).1 (by rw [(hx.imm k him).2]; exact hh) h1 h2 ihk ihv hb hn
 | it id hid => rw [← hx.mapB id hid]; exact .it id (Nat.lt_of_lt_of_le hid hx.mapsLen)

theorem RelL.ext {G : Gh} {σ : Store} {w : World} {G' : Gh} {σ' : Store} {w' : World} (hx : Ext G σ w G' σ' w') {cs : List DV} {vs : List Value} (h : RelL G σ w cs vs) : RelL G' σ' w' cs vs :=
 ⟨h.1, fun i c v hc hv => (h.2 i c v hc hv).ext hx⟩
theorem RelL.get {G : Gh} {σ : Store} {w : World} {cs : List DV} {vs : List Value} (h : RelL G σ w cs vs) {i : Nat} {c : DV} (hc : cs[i]? = some c) : ∃ v, vs[i]? = some v ∧ RelV G σ w c v := by
 have hi : i < vs.length := by rw [h.1]; exact (List.getElem?_eq_some_iff.1 hc).1
 exact ⟨vs[i], List.getElem?_eq_getElem hi, h.2 i c _ hc (List.getElem?_eq_getElem hi)⟩
theorem RelL.nil {G : Gh} {σ : Store} {w : World} : RelL G σ w [] [] := ⟨rfl, by simp⟩
theorem RelL.cons {G : Gh} {σ : Store} {w : World} {c : DV} {cs : List DV} {v : Value} {vs : List Value} (h : RelV G σ w c v) (hs : RelL G σ w cs vs) : RelL G σ w (c :: cs) (v :: vs) := by
 refine ⟨by simp [hs.1], fun i d u hd hu => ?_⟩
 cases i with
 | zero => simp at hd hu; subst hd; subst hu; exact h
 | succ i => simp at hd hu; exact hs.2 i d u hd hu
theorem RelL.append {G : Gh} {σ : Store} {w : World} {cs ds : List DV} {vs us : List Value} (h : RelL G σ w cs vs) (k : RelL G σ w ds us) : RelL G σ w (cs ++ ds) (vs ++ us) := by
 refine ⟨by simp [h.1, k.1], fun i d u hd hu => ?_⟩
 rcases Nat.lt_or_ge i cs.length with hi | hi
 ·rw [List.getElem?_append_left hi] at hd
  rw [List.getElem?_append_left (by rw [h.1]; exact hi)] at hu
  exact h.2 i d u hd hu
 ·rw [List.getElem?_append_right hi] at hd
  rw [List.getElem?_append_right (by rw [h.1]; exact hi), h.1] at hu
  exact k.2 _ d u hd hu
theorem RelL.set {G : Gh} {σ : Store} {w : World} {cs : List DV} {vs : List Value} (h : RelL G σ w cs vs) (i : Nat) {c : DV} {v : Value} (hv : RelV G σ w c v) : RelL G σ w (cs.set i c) (vs.set i v) := by
 refine ⟨by simp [h.1], fun j d u hd hu => ?_⟩
 by_cases hj : j = i
 ·subst hj
  have hl : j < cs.length := by have := (List.getElem?_eq_some_iff.1 hd).1; simpa using this
  rw [List.getElem?_set_self hl] at hd
  rw [List.getElem?_set_self (by rw [h.1]; exact hl)] at hu
  injection hd with hd; injection hu with hu; subst hd; subst hu; exact hv
 ·rw [List.getElem?_set_ne (Ne.symm hj)] at hd hu
  exact h.2 j d u hd hu
theorem RelL.take {G : Gh} {σ : Store} {w : World} {cs : List DV} {vs : List Value} (h : RelL G σ w cs vs) (n : Nat) : RelL G σ w (cs.take n) (vs.take n) := by
 refine ⟨by simp [h.1], fun i d u hd hu => ?_⟩
 rw [List.getElem?_take] at hd hu
 split at hd <;> rename_i hi
 ·rw [if_pos hi] at hu; exact h.2 i d u hd hu
 ·simp at hd
theorem RelL.drop {G : Gh} {σ : Store} {w : World} {cs : List DV} {vs : List Value} (h : RelL G σ w cs vs) (n : Nat) : RelL G σ w (cs.drop n) (vs.drop n) := by
 refine ⟨by simp [h.1], fun i d u hd hu => ?_⟩
 rw [List.getElem?_drop] at hd hu
 exact h.2 _ d u hd hu

theorem RelV.cells {G : Gh} {σ : Store} {w : World} {d : DV} {v : Value} (h : RelV G σ w d v) (hu : d ≠ .undef) (hr : ∀ i l, d ≠ .row i l) (hp : ∀ i l j o, d ≠ .rp i l j o) : RelL G σ w d.cells v.cells.toList := by
 cases h with
 | undef => exact absurd rfl hu
 | agg cs vs hl h => exact ⟨by simpa [Value.cells, DV.cells] using hl, by simpa [Value.cells, DV.cells] using h⟩
 | row id len v => exact absurd rfl (hr id len)
 | rp id len i off v => exact absurd rfl (hp id len i off)
 | _ => exact .cons (by constructor <;> assumption) .nil

structure Chg (w0 : World) (G G1 : Gh) (w w' : World) : Prop where
 keep : ∀ k, G.own k ≠ .free → (∀ n, G.own k ≠ .dfr n) → G1.own k = G.own k ∧ w'.heap[k]? = w.heap[k]?
 live : ∀ k, G1.own k ≠ .free → G.own k ≠ .free ∧ (G1.own k ≠ .imm → G.own k ≠ .imm)
 rowV : G1.rowV = G.rowV
 boxB : G1.boxB = G.boxB
 mapB : G1.mapB = G.mapB
 below : Below w0.heap.size w w'
section
variable {w0 : World} {G G1 : Gh} {σ : Store} {w w' : World}
theorem Chg.imm (h : Chg w0 G G1 w w') {k : Nat} (hk : G.own k = .imm) : G1.own k = .imm ∧ w'.heap[k]? = w.heap[k]? := by
 have := h.keep k (by rw [hk]; simp) (by rw [hk]; simp)
 exact ⟨this.1.trans hk, this.2⟩
theorem RelV.chg (hx : Chg w0 G G1 w w') {d : DV} {v : Value} (h : RelV G σ w d v) : RelV G1 σ w' d v := by
 induction h with
 | undef v => exact .undef v
 | int k n => exact .int k n
 | bool b => exact .bool b
 | str s => exact .str s
 | agg cs vs hl _ ih => exact .agg cs vs hl ih
 | tup cs vs hl _ ih => exact .tup cs vs hl ih
 | sl xs A n c st b o vs hn hc hA hst hm hr ih =>
  rcases hA with rfl | ⟨hA, hi⟩
  ·exact .sl [] A n c st b o vs hn hc (.inl rfl) (by simp) (by simp [flat]) (by simp [flat])
  ·exact .sl xs A n c st b o vs hn hc (.inr ⟨hA, (hx.imm hi).1⟩) hst (fun i hi' => cell_of_heap (hx.imm hi).2 (hm i hi')) ih
 | slt xs A n st b o vs hn hA hst hm hr ih =>
  rcases hA with rfl | ⟨hA, hi⟩
  ·exact .slt [] A n st b o vs hn (.inl rfl) (by simp) (by simp [flat]) (by simp [flat])
  ·exact .slt xs A n st b o vs hn (.inr ⟨hA, (hx.imm hi).1⟩) hst (fun i hi' => cell_of_heap (hx.imm hi).2 (hm i hi')) ih
 | row id len v hid hle h => exact .row id len v hid hle (by rw [hx.rowV]; exact h)
 | ptr b off hb => rw [← hx.boxB]; exact .ptr b off hb
 | cp cs b o vs him hm hr ih => exact .cp cs b o vs (hx.imm him).1 (fun i hi' => cell_of_heap (hx.imm him).2 (hm i hi')) ih
 | rp id len i off v hid hle h => exact .rp id len i off v hid hle (by rw [hx.rowV]; exact h)
 | nilp => exact .nilp
 | fn f fs cs us vs hf _ hl _ ihF ih => exact .fn f fs cs us vs hf ihF hl ih
 | nilfn => exact .nilfn
 | mp id hid => rw [← hx.mapB]; exact .mp id hid
 | cm ks vs k clock es him hh h1 h2 hk hv hb hn ihk ihv => exact .cm ks vs k clock es (hx.imm him).1 (by rw [(hx.imm him).2]; exact hh) h1 h2 ihk ihv hb hn
 | it id hid => rw [← hx.mapB]; exact .it id hid
theorem RelL.chg (hx : Chg w0 G G1 w w') {cs : List DV} {vs : List Value} (h : RelL G σ w cs vs) : RelL G1 σ w' cs vs := ⟨h.1, fun i c v hc hv => (h.2 i c v hc hv).chg hx⟩
theorem StoreRel.chg (hx : Chg w0 G G1 w w') (hsz : w.heap.size ≤ w'.heap.size) (h : StoreRel w0 G σ w) : StoreRel w0 G1 σ w' := by
 refine ⟨h.below.trans hx.below, fun k hk => Nat.lt_of_lt_of_le (h.lt k (hx.live k hk).1) hsz, fun k hk hi => h.trk k (hx.live k hk).1 ((hx.live k hk).2 hi), fun id R hR => ?_, fun id B hB => ?_, fun id M hM => ?_⟩
 ·obtain ⟨h0, h1, A, n, c, hA, hn, hc, hr⟩ := h.rows id R hR
  refine ⟨h0, h1, A, n, c, by rw [hx.rowV]; exact hA, hn, hc, hr.imp (fun h => h) ?_⟩
  rintro ⟨g, arr, fr, h2, h3, h4, h5, h6, h7⟩
  have hk := hx.keep g (by rw [h3]; simp) (by rw [h3]; simp)
  exact ⟨g, arr, fr, h2, hk.1.trans h3, by rw [hk.2]; exact h4, h5, h6, fun i d v hd hv => (h7 i d v hd hv).chg hx⟩
 ·obtain ⟨h0, arr, h1, h2⟩ := h.boxes id B hB
  have hk := hx.keep (G.boxB id) (by rw [h0]; simp) (by rw [h0]; simp)
  exact ⟨by rw [hx.boxB]; exact hk.1.trans h0, arr, by rw [hx.boxB, hk.2]; exact h1, h2.chg hx⟩
 ·obtain ⟨h0, hh⟩ := h.maps id M hM
  have hk := hx.keep (G.mapB id) (by rw [h0]; simp) (by rw [h0]; simp)
  refine ⟨by rw [hx.mapB]; exact hk.1.trans h0, hh.imp ?_ ?_⟩
  ·rintro ⟨g0, es, clock, h1, h2, h3, h4, h5⟩
   exact ⟨g0, es, clock, by rw [hx.mapB, hk.2]; exact h1, h2, fun i e m he hm => ⟨(h3 i e m he hm).1.chg hx, (h3 i e m he hm).2.chg hx⟩, h4, h5⟩
  ·rintro ⟨ks, vs, is, k, es, clock, since, last, seen, h1, h2, h3, h4, h5⟩
   refine ⟨ks, vs, is, k, es, clock, since, last, seen, h1, h2.chg hx, ?_, by rw [hx.mapB, hk.2]; exact h4, h5⟩
   cases h2 with
   | cm _ _ _ _ _ him hh => rw [(hx.imm him).2]; exact h3
end
def Owner.up : Owner → Owner
 | .dfr n => .dfr (n + 1)
 | o => o
def Owner.down : Owner → Owner
 | .dfr 0 => .free
 | .dfr (n + 1) => .dfr n
 | o => o
def Gh.up (G : Gh) : Gh := { G with own := fun k => (G.own k).up }
def Gh.down (G : Gh) : Gh := { G with own := fun k => (G.own k).down }
theorem chg_up {w0 w : World} (G : Gh) : Chg w0 G G.up w w := by
 refine ⟨fun k h1 h2 => ⟨?_, rfl⟩, fun k h => ?_, rfl, rfl, rfl, Below.refl _ _⟩
 ·show (G.own k).up = _
  cases hk : G.own k <;> first | rfl | exact absurd hk (h2 _)
 ·have h' : (G.own k).up ≠ .free := h
  show G.own k ≠ .free ∧ ((G.own k).up ≠ .imm → _)
  cases hk : G.own k <;> simp_all [Owner.up]
theorem chg_down {w0 w w' : World} {G : Gh} (hk : ∀ k, (∀ n, G.own k ≠ .dfr n) → G.own k ≠ .free → w'.heap[k]? = w.heap[k]?) (hb : Below w0.heap.size w w') : Chg w0 G G.down w w' := by
 refine ⟨fun k h1 h2 => ⟨?_, hk k h2 h1⟩, fun k h => ?_, rfl, rfl, rfl, hb⟩
 ·show (G.own k).down = _
  cases hk : G.own k <;> first | rfl | exact absurd hk (h2 _)
 ·have h' : (G.own k).down ≠ .free := h
  show G.own k ≠ .free ∧ ((G.own k).down ≠ .imm → _)
  cases hk : G.own k with
  | dfr n => cases n <;> simp_all [Owner.down]
  | _ => simp_all [Owner.down]
theorem Ext.down {G G' : Gh} {σ σ' : Store} {w w' w2 : World} (h : Ext G.up σ w G' σ' w') (hk : ∀ k, G'.own k ≠ .dfr 0 → w2.heap[k]? = w'.heap[k]?) : Ext G σ w G'.down σ' w2 := by
 refine ⟨fun k hi => ?_, h.rowsLen, h.boxesLen, h.mapsLen, h.rowV, h.boxB, h.mapB, fun {n} k hi => ?_⟩
 ·have := h.imm k (show (G.own k).up = .imm by rw [hi]; rfl)
  exact ⟨show (G'.own k).down = .imm by rw [this.1]; rfl, (hk k (by rw [this.1]; simp)).trans this.2⟩
 ·have := h.dfr (n := n + 1) k (show (G.own k).up = .dfr (n + 1) by rw [hi]; rfl)
  exact ⟨show (G'.own k).down = .dfr n by rw [this.1]; rfl, (hk k (by rw [this.1]; simp)).trans this.2⟩
end Go.Val
end

section
namespace Go.Val
open Go.RowKit
set_option linter.unusedSimpArgs false
set_option linter.unusedVariables false

inductive Ty where
 | other
 | int (k : IntKind)
 | bool
 | str
 | ptr (e : TypeId)
 | slice (e : TypeId)
 | array (n : Nat) (e : TypeId)
 | struct (fs : List (TypeId × Nat))
 | map (k e : TypeId)
 | func

structure TI where
 ty : Ty
 size : Nat
 bytes : Nat
 zero : Value
 eqok : Bool := false

def TyRel : Ty → TypeDesc → Prop
 | .other, _ => False
 | .int k, d => d = .int k
 | .bool, d => d = .bool
 | .str, d => d = .string
 | .ptr e, d => d = .pointer e
 | .slice e, d => d = .slice e
 | .array n e, d => d = .array n e
 | .struct fs, d => ∃ gs, d = .struct gs ∧ gs.toList.map (fun f => (f.type, f.offset)) = fs
 | .map k e, d => d = .map k e
 | .func, d => ∃ p r v, d = .func p r v

def TOK (P : Program) (T : TypeId → TI) : Prop :=
 ∀ t, (∃ f, (T t).ty = f ∧ f ≠ .other) → ∃ i d, P.info? t = some i ∧ P.underlying t = some d ∧ TyRel (T t).ty d ∧ i.size = (T t).size ∧ i.bytes = (T t).bytes ∧ i.zero = some (T t).zero ∧
  ((T t).eqok = true → P.stoodInHeld t = false ∧ P.eqGuardType P.depth t = false ∧ ∃ gs, P.underlying t = some (.struct gs) ∧ ∀ f ∈ gs.toList, f.name ≠ "_")

def TI.isAgg (ti : TI) : Bool := match ti.ty with | .array .. | .struct .. => true | _ => false

theorem TOK.undP_bool {P : Program} {T : TypeId → TI} (hT : TOK P T) {t : TypeId} (h : (T t).ty = .bool) : P.underlying t = some .bool := by
 obtain ⟨i, d, _, hu, hr, _⟩ := hT t ⟨_, h, by simp⟩
 rw [h] at hr; simp only [TyRel] at hr; rw [hu, hr]
section
variable {P : Program} {T : TypeId → TI} (hT : TOK P T) (w : World)
include hT
theorem TOK.und {t : TypeId} {y : Ty} (h : (T t).ty = y) (hne : y ≠ .other) : ∃ d, (underlying t).run P w = .ok d w ∧ TyRel y d := by
 obtain ⟨i, d, _, hu, hr, _⟩ := hT t ⟨_, h, hne⟩
 exact ⟨d, run_underlying hu w, h ▸ hr⟩
theorem TOK.und_int {t : TypeId} {k : IntKind} (h : (T t).ty = .int k) : (underlying t).run P w = .ok (.int k) w := by
 obtain ⟨d, a, b⟩ := TOK.und hT w h (by simp); simp only [TyRel] at b; rw [a, b]
theorem TOK.und_bool {t : TypeId} (h : (T t).ty = .bool) : (underlying t).run P w = .ok .bool w := by
 obtain ⟨d, a, b⟩ := TOK.und hT w h (by simp); simp only [TyRel] at b; rw [a, b]
theorem TOK.und_str {t : TypeId} (h : (T t).ty = .str) : (underlying t).run P w = .ok .string w := by
 obtain ⟨d, a, b⟩ := TOK.und hT w h (by simp); simp only [TyRel] at b; rw [a, b]
theorem TOK.und_ptr {t e : TypeId} (h : (T t).ty = .ptr e) : (underlying t).run P w = .ok (.pointer e) w := by
 obtain ⟨d, a, b⟩ := TOK.und hT w h (by simp); simp only [TyRel] at b; rw [a, b]
theorem TOK.und_slice {t e : TypeId} (h : (T t).ty = .slice e) : (underlying t).run P w = .ok (.slice e) w := by
 obtain ⟨d, a, b⟩ := TOK.und hT w h (by simp); simp only [TyRel] at b; rw [a, b]
theorem TOK.und_array {t e : TypeId} {n : Nat} (h : (T t).ty = .array n e) : (underlying t).run P w = .ok (.array n e) w := by
 obtain ⟨d, a, b⟩ := TOK.und hT w h (by simp); simp only [TyRel] at b; rw [a, b]
theorem TOK.und_map {t k e : TypeId} (h : (T t).ty = .map k e) : (underlying t).run P w = .ok (.map k e) w := by
 obtain ⟨d, a, b⟩ := TOK.und hT w h (by simp); simp only [TyRel] at b; rw [a, b]
theorem TOK.und_struct {t : TypeId} {fs : List (TypeId × Nat)} (h : (T t).ty = .struct fs) : ∃ gs, (underlying t).run P w = .ok (.struct gs) w ∧ gs.toList.map (fun f => (f.type, f.offset)) = fs := by
 obtain ⟨d, a, b⟩ := TOK.und hT w h (by simp); simp only [TyRel] at b; obtain ⟨gs, rfl, e⟩ := b; exact ⟨gs, a, e⟩
theorem TOK.info {t : TypeId} (h : (T t).ty ≠ .other) : ∃ i, (typeInfo t).run P w = .ok i w ∧ i.size = (T t).size ∧ i.bytes = (T t).bytes ∧ i.zero = some (T t).zero := by
 obtain ⟨i, d, hi, _, _, a, b, c, _⟩ := hT t ⟨_, rfl, h⟩
 exact ⟨i, by simp [typeInfo, hi], a, b, c⟩
theorem TOK.size {t : TypeId} (h : (T t).ty ≠ .other) : (sizeOf t).run P w = .ok (T t).size w := by
 obtain ⟨i, a, b, _⟩ := TOK.info hT w h
 simp [sizeOf, a, b]
theorem TOK.zero {t : TypeId} (h : (T t).ty ≠ .other) : (zeroValue t).run P w = .ok (T t).zero w := by
 obtain ⟨i, a, _, _, b⟩ := TOK.info hT w h
 simp [zeroValue, a, b]
theorem TOK.isAgg {t : TypeId} (h : (T t).ty ≠ .other) : (Go.isAgg t).run P w = .ok (T t).isAgg w := by
 cases hy : (T t).ty with
 | other => exact absurd hy h
 | int k => simp [Go.isAgg, TOK.und_int hT w hy, TI.isAgg, hy]
 | bool => simp [Go.isAgg, TOK.und_bool hT w hy, TI.isAgg, hy]
 | str => simp [Go.isAgg, TOK.und_str hT w hy, TI.isAgg, hy]
 | ptr e => simp [Go.isAgg, TOK.und_ptr hT w hy, TI.isAgg, hy]
 | slice e => simp [Go.isAgg, TOK.und_slice hT w hy, TI.isAgg, hy]
 | array n e => simp [Go.isAgg, TOK.und_array hT w hy, TI.isAgg, hy]
 | struct fs => obtain ⟨gs, a, _⟩ := TOK.und_struct hT w hy; simp [Go.isAgg, a, TI.isAgg, hy]
 | map k e => simp [Go.isAgg, TOK.und_map hT w hy, TI.isAgg, hy]
 | func =>
  obtain ⟨d, a, b⟩ := TOK.und hT w hy (by simp)
  simp only [TyRel] at b
  obtain ⟨p, r, v, rfl⟩ := b
  simp [Go.isAgg, a, TI.isAgg, hy]
end

/-! ### numbers, texts -/
def bitsD (op : BinOp) (k : IntKind) (x y : Int) : Int :=
 match op with
 | .and => k.wrap (BitVec.ofInt k.bits x &&& BitVec.ofInt k.bits y).toNat
 | .or => k.wrap (BitVec.ofInt k.bits x ||| BitVec.ofInt k.bits y).toNat
 | .xor => k.wrap (BitVec.ofInt k.bits x ^^^ BitVec.ofInt k.bits y).toNat
 | _ => k.wrap (BitVec.ofInt k.bits x &&& ~~~BitVec.ofInt k.bits y).toNat

def intD (op : BinOp) (k : IntKind) (a b : Int) : Option (Prop × DV) :=
 match op with
 | .add => some (True, .int k (k.wrap (a + b)))
 | .sub => some (True, .int k (k.wrap (a - b)))
 | .mul => some (True, .int k (k.wrap (a * b)))
 | .quo => some (b ≠ 0, .int k (k.wrap (a.tdiv b)))
 | .rem => some (b ≠ 0, .int k (a.tmod b))
 | .and => some (True, .int k (bitsD .and k a b))
 | .or => some (True, .int k (bitsD .or k a b))
 | .xor => some (True, .int k (bitsD .xor k a b))
 | .andNot => some (True, .int k (bitsD .andNot k a b))
 | .eql => some (True, .bool (decide (a = b)))
 | .neq => some (True, .bool (!decide (a = b)))
 | .lss => some (True, .bool (decide (a < b)))
 | .leq => some (True, .bool (decide (a ≤ b)))
 | .gtr => some (True, .bool (decide (a > b)))
 | .geq => some (True, .bool (decide (a ≥ b)))
 | .shl | .shr => none

def strD (op : BinOp) (a b : List UInt8) : Option (Prop × DV) :=
 match op with
 | .add => some (a.length + b.length ≤ 9223372036854775807, .str (a ++ b))
 | .eql => some (True, .bool (decide (a = b)))
 | .neq => some (True, .bool (!decide (a = b)))
 | .lss => some (True, .bool (Op.bytesLess a b))
 | .leq => some (True, .bool (Op.bytesLess a b || decide (a = b)))
 | .gtr => some (True, .bool (!(Op.bytesLess a b || decide (a = b))))
 | .geq => some (True, .bool (!Op.bytesLess a b))
 | _ => none

def binD (T : TypeId → TI) (op : BinOp) (t : TypeId) (x y : DV) : Option (Prop × DV) :=
 match x, y with
 | .int k a, .int k' b =>
  match op with
  | .shl => some (0 ≤ b, .int k (k.wrap (a * 2 ^ (min b.toNat k.bits))))
  | .shr => some (0 ≤ b, .int k (a.fdiv (2 ^ (min b.toNat k.bits))))
  | op => match intD op k a b with
   | some (C, d) => some (k = k' ∧ C, d)
   | none => none
 | .str a, .str b => strD op a b
 | .bool a, .bool b =>
  match op with
  | .eql => some ((T t).ty = .bool, .bool (a == b))
  | .neq => some ((T t).ty = .bool, .bool (!(a == b)))
  | _ => none
 | _, _ => none


theorem Addr_add (b o j : Nat) : (⟨b, o, none⟩ : Addr).add j = ⟨b, o + j, none⟩ := by unfold Addr.add; split <;> simp_all

def VRun (P : Program) (G : Gh) (σ : Store) (w : World) (s : Sem Value) (d : DV) : Prop := ∃ v, s.run P w = .ok v w ∧ RelV G σ w d v

section
variable {P : Program} {T : TypeId → TI} {G : Gh} {σ : Store} (w : World)
theorem intD_sound {op : BinOp} {k : IntKind} {a b : Int} {C : Prop} {d : DV} (h : intD op k a b = some (C, d)) (hc : C) (t : TypeId) :
  VRun P G σ w (binOp op t (.int k a) (.int k b)) d := by
 cases op <;> simp only [intD, Option.some.injEq, Prod.mk.injEq, reduceCtorEq] at h <;> obtain ⟨rfl, rfl⟩ := h
 case quo => exact ⟨_, by simp [binOp, Op.intDiv, show b ≠ 0 from hc], .int _ _⟩
 case rem => exact ⟨_, by simp [binOp, Op.intDiv, show b ≠ 0 from hc], .int _ _⟩
 case eql => exact ⟨_, by simp [binOp, Op.intCmp]; rfl, .bool _⟩
 case neq => exact ⟨_, by simp [binOp, Op.intCmp]; rfl, .bool _⟩
 all_goals first
  | exact ⟨_, by simp only [binOp, ne_eq, not_true_eq_false, if_false]; rfl, .int _ _⟩
  | exact ⟨_, by simp only [binOp, ne_eq, not_true_eq_false, if_false]; rfl, .bool _⟩

theorem strD_sound {op : BinOp} {a b : List UInt8} {C : Prop} {d : DV} (h : strD op a b = some (C, d)) (hc : C) (t : TypeId) :
  VRun P G σ w (binOp op t (.string ⟨a.toArray⟩) (.string ⟨b.toArray⟩)) d := by
 have e : (⟨a.toArray⟩ : ByteArray) ++ ⟨b.toArray⟩ = ⟨(a ++ b).toArray⟩ := by
  apply WideShapes.bytes_inj
  simp
 cases op <;> simp only [strD, Option.some.injEq, Prod.mk.injEq, reduceCtorEq] at h <;> obtain ⟨rfl, rfl⟩ := h
 case add =>
  refine ⟨.string ⟨(a ++ b).toArray⟩, ?_, .str _⟩
  have h1 : ¬ (((⟨a.toArray⟩ : ByteArray).size + (⟨b.toArray⟩ : ByteArray).size : Nat) : Int) > IntKind.i64.max := by
   have x1 : (⟨a.toArray⟩ : ByteArray).size = a.length := by simp [ByteArray.size]
   have x2 : (⟨b.toArray⟩ : ByteArray).size = b.length := by simp [ByteArray.size]
   rw [x1, x2]
   simp only [IntKind.max, IntKind.signed, IntKind.bits]
   simp only [if_true]
   have := hc
   omega
  simp only [binOp, Op.stringOp]
  rw [if_neg h1, e]
  rfl
 all_goals
  have hb : decide (a = b) = (a == b) := by rw [Bool.eq_iff_iff]; simp
  exact ⟨_, by simp only [binOp, Op.stringOp, ByteArray.toList_mk]; rfl, by first | exact .bool _ | (rw [hb]; exact .bool _)⟩

theorem binD_sound (hT : TOK P T) {op : BinOp} {t : TypeId} {x y : DV} {vx vy : Value} {C : Prop} {d : DV} (hx : RelV G σ w x vx) (hy : RelV G σ w y vy)
  (h : binD T op t x y = some (C, d)) (hc : C) : VRun P G σ w (binOp op t vx vy) d := by
 unfold binD at h
 split at h
 ·rename_i k a k' b
  cases hx; cases hy
  split at h
  ·simp only [Option.some.injEq, Prod.mk.injEq] at h
   obtain ⟨rfl, rfl⟩ := h
   exact ⟨_, by simp [binOp, Op.shift, show ¬ b < 0 by have := hc; omega], .int _ _⟩
  ·simp only [Option.some.injEq, Prod.mk.injEq] at h
   obtain ⟨rfl, rfl⟩ := h
   exact ⟨_, by simp [binOp, Op.shift, show ¬ b < 0 by have := hc; omega], .int _ _⟩
  ·split at h
   ·rename_i C' d' hi
    simp only [Option.some.injEq, Prod.mk.injEq] at h
    obtain ⟨rfl, rfl⟩ := h
    obtain ⟨rfl, hc⟩ := hc
    exact intD_sound w hi hc t
   ·simp at h
 ·cases hx; cases hy
  exact strD_sound w h hc t
 ·rename_i a b
  cases hx; cases hy
  split at h
  ·simp only [Option.some.injEq, Prod.mk.injEq] at h
   obtain ⟨rfl, rfl⟩ := h
   exact ⟨.bool (a == b), by simp only [binOp]; simp [Op.equal, Op.maxDepth, run_equalIn_bool w 9999 t a b (TOK.undP_bool hT hc)], .bool _⟩
  ·simp only [Option.some.injEq, Prod.mk.injEq] at h
   obtain ⟨rfl, rfl⟩ := h
   exact ⟨.bool (!(a == b)), by simp only [binOp]; simp [Op.equal, Op.maxDepth, run_equalIn_bool w 9999 t a b (TOK.undP_bool hT hc)], .bool _⟩
  ·simp at h
 ·simp at h
theorem binD_guard {op : BinOp} {t : TypeId} {x y : DV} {vx vy : Value} {C : Prop} {d : DV} (hx : RelV G σ w x vx) (hy : RelV G σ w y vy)
  (h : binD T op t x y = some (C, d)) (ox oy : Operand) : (eqGuard op t ox oy vx vy).run P w = .ok () w := by
 unfold binD at h
 split at h
 ·cases hx; cases hy; cases op <;> rfl
 ·cases hx; cases hy; cases op <;> rfl
 ·cases hx; cases hy; cases op <;> rfl
 ·simp at h
end

/-! ### the other operations without a trace -/
def unD (op : UnOp) (x : DV) : Option (Prop × DV) :=
 match op, x with
 | .neg, .int k n => some (True, .int k (k.wrap (0 - n)))
 | .xor, .int k n => some (True, .int k (bitsD .xor k (if k.signed then -1 else k.max) n))
 | .not, .bool b => some (True, .bool (!b))
 | _, _ => none

def bytes (l : List UInt8) : List DV := l.map fun b => .int .u8 b.toNat
def DV.byte : DV → UInt8
 | .int _ n => UInt8.ofNat n.toNat
 | _ => 0
def DV.isByte : DV → Bool
 | .int .u8 n => decide (0 ≤ n ∧ n < 256)
 | _ => false
def unbytes (xs : List DV) : List UInt8 := xs.map DV.byte

def convD (T : TypeId → TI) (src dst : TypeId) (x : DV) : Option (Prop × DV) :=
 match (T dst).ty, x with
 | .int k, .int _ n => some ((T src).ty ≠ .other, .int k (k.wrap n))
 | .str, .str s => some ((T src).ty = .str, .str s)
 | .str, .sl xs => some ((∃ e, (T src).ty = .slice e ∧ (T e).ty = .int .u8) ∧ xs.all DV.isByte = true, .str (unbytes xs))
 | .str, .slt xs => some ((∃ e, (T src).ty = .slice e ∧ (T e).ty = .int .u8) ∧ xs.all DV.isByte = true, .str (unbytes xs))
 | _, _ => none

def fieldOff (T : TypeId → TI) (s : TypeId) (f : Nat) : Option (TypeId × Nat) :=
 match (T s).ty with
 | .struct fs => fs[f]?
 | _ => none

def partD (T : TypeId → TI) (t : TypeId) (cs : List DV) (off : Nat) : Option (Prop × DV) :=
 if (T t).isAgg then some ((T t).ty ≠ .other ∧ off + (T t).size ≤ cs.length, .agg ((cs.drop off).take (T t).size))
 else some ((T t).ty ≠ .other ∧ off < cs.length, cs.getD off .undef)

def fieldD (T : TypeId → TI) (s : TypeId) (x : DV) (f : Nat) : Option (Prop × DV) :=
 match x, fieldOff T s f with
 | .agg cs, some (t, off) => partD T t cs off
 | _, _ => none

def DV.shift (x : DV) (k : Nat) : Option DV :=
 match x with
 | .ptr b off => some (.ptr b (off + k))
 | .cp cs => some (.cp (cs.drop k))
 | .rp id len i off => some (.rp id len i (off + k))
 | _ => none

def fieldAddrD (T : TypeId → TI) (s : TypeId) (x : DV) (f : Nat) : Option (Prop × DV) :=
 match fieldOff T s f with
 | some (t, off) =>
  match x with
  | .ptr b o => some ((T t).ty ≠ .other ∧ (T t).size ≠ 0, .ptr b (o + off))
  | .cp cs => some ((T t).ty ≠ .other ∧ (T t).size ≠ 0, .cp (cs.drop off))
  | .rp id len i o => some ((T t).ty ≠ .other ∧ (T t).size ≠ 0, .rp id len i (o + off))
  | _ => none
 | none => none

def indexD (T : TypeId → TI) (t : TypeId) (x i : DV) : Option (Prop × DV) :=
 match (T t).ty, x, i with
 | .str, .str s, .int _ n => some (0 ≤ n ∧ n < s.length, .int .u8 (s.getD n.toNat 0).toNat)
 | .array len e, .agg cs, .int _ n =>
  match partD T e cs (n.toNat * (T e).size) with
  | some (C, d) => some (0 ≤ n ∧ n < len ∧ C, d)
  | none => none
 | _, _, _ => none

def indexAddrD (T : TypeId → TI) (σ : Store) (t : TypeId) (x i : DV) : Option (Prop × DV) :=
 match (T t).ty, x, i with
 | .slice e, .sl xs, .int _ n => some (0 ≤ n ∧ n < xs.length ∧ (T e).ty ≠ .other ∧ (xs.getD n.toNat .undef).cells.length = (T e).size, .cp (xs.getD n.toNat .undef).cells)
 | .slice e, .slt xs, .int _ n => some (0 ≤ n ∧ n < xs.length ∧ (T e).ty ≠ .other ∧ (xs.getD n.toNat .undef).cells.length = (T e).size, .cp (xs.getD n.toNat .undef).cells)
 | .slice e, .row id len, .int _ n =>
  match σ.rows[id]? with
  | some (some R) => some (0 ≤ n ∧ n < len ∧ R.xs.length = len ∧ (T e).ty ≠ .other ∧ R.st = (T e).size, .rp id len n.toNat 0)
  | _ => none
 | .array len e, .ptr b off, .int _ n => some (0 ≤ n ∧ n < len ∧ (T e).ty ≠ .other, .ptr b (off + n.toNat * (T e).size))
 | .array len e, .cp cs, .int _ n => some (0 ≤ n ∧ n < len ∧ (T e).ty ≠ .other, .cp (cs.drop (n.toNat * (T e).size)))
 | _, _, _ => none

def loadD (T : TypeId → TI) (σ : Store) (t : TypeId) (x : DV) : Option (Prop × DV) :=
 match x with
 | .cp cs => partD T t cs 0
 | .ptr b off =>
  match σ.boxes[b]? with
  | some (some B) => partD T t B.cs off
  | _ => none
 | .rp id len i off =>
  match σ.rows[id]? with
  | some (some R) =>
   match partD T t (R.xs.getD i .undef).cells off with
   | some (C, d) => some (R.xs.length = len ∧ i < len ∧ C, d)
   | none => none
  | _ => none
 | _ => none

def boundD (d : Option DV) (z : Nat) : Option Nat :=
 match d with
 | none => some z
 | some (.int _ n) => some n.toNat
 | _ => none
def boundOk (d : Option DV) : Prop :=
 match d with
 | some (.int _ n) => 0 ≤ n
 | _ => True

def sliceD (T : TypeId → TI) (t : TypeId) (x : DV) (lo hi mx : Option DV) : Option (Prop × DV) :=
 match (T t).ty, x, mx with
 | .str, .str s, none =>
  match boundD lo 0, boundD hi s.length with
  | some l, some h => some (boundOk lo ∧ boundOk hi ∧ l ≤ h ∧ h ≤ s.length, .str ((s.take h).drop l))
  | _, _ => none
 | .slice e, .sl xs, none =>
  match boundD lo 0, boundD hi xs.length with
  | some l, some h => some ((T e).ty ≠ .other ∧ boundOk lo ∧ boundOk hi ∧ l ≤ h ∧ h ≤ xs.length ∧ (∀ x ∈ xs, x.cells.length = (T e).size), .sl ((xs.take h).drop l))
  | _, _ => none
 | .slice e, .slt xs, none =>
  match boundD lo 0, boundD hi xs.length with
  | some l, some h => some ((T e).ty ≠ .other ∧ boundOk lo ∧ boundOk hi ∧ l ≤ h ∧ h ≤ xs.length ∧ (∀ x ∈ xs, x.cells.length = (T e).size), .sl ((xs.take h).drop l))
  | _, _ => none
 | .slice e, .sl xs, some m =>
  match boundD lo 0, boundD hi xs.length, boundD (some m) 0 with
  | some l, some h, some k => some ((T e).ty ≠ .other ∧ hi.isSome ∧ boundOk lo ∧ boundOk hi ∧ boundOk (some m) ∧ l ≤ h ∧ h = k ∧ k ≤ xs.length ∧ (∀ x ∈ xs, x.cells.length = (T e).size), .slt ((xs.take h).drop l))
  | _, _, _ => none
 | .slice e, .slt xs, some m =>
  match boundD lo 0, boundD hi xs.length, boundD (some m) 0 with
  | some l, some h, some k => some ((T e).ty ≠ .other ∧ hi.isSome ∧ boundOk lo ∧ boundOk hi ∧ boundOk (some m) ∧ l ≤ h ∧ h = k ∧ k ≤ xs.length ∧ (∀ x ∈ xs, x.cells.length = (T e).size), .slt ((xs.take h).drop l))
  | _, _, _ => none
 | .array n e, .cp cs, none =>
  match boundD lo 0, boundD hi n with
  | some l, some h => some ((T e).ty ≠ .other ∧ (T e).size = 1 ∧ n ≤ cs.length ∧ (∀ x ∈ cs.take n, x.cells = [x]) ∧ boundOk lo ∧ boundOk hi ∧ l ≤ h ∧ h ≤ n, .sl (((cs.take n).take h).drop l))
  | _, _ => none
 | _, _, _ => none

end Go.Val
end

section
namespace Go.Val
open Go.RowKit
set_option linter.unusedSimpArgs false
set_option linter.unusedVariables false

section
variable {P : Program} {T : TypeId → TI} {G : Gh} {σ : Store} (w : World)

theorem TOK.undP (hT : TOK P T) {t : TypeId} {y : Ty} (h : (T t).ty = y) (hne : y ≠ .other) : ∃ d, P.underlying t = some d ∧ TyRel y d := by
 obtain ⟨i, d, _, hu, hr, _⟩ := hT t ⟨_, h, hne⟩
 exact ⟨d, hu, h ▸ hr⟩
theorem TOK.undP_int (hT : TOK P T) {t : TypeId} {k : IntKind} (h : (T t).ty = .int k) : P.underlying t = some (.int k) := by
 obtain ⟨d, a, b⟩ := TOK.undP hT h (by simp); simp only [TyRel] at b; rw [a, b]
theorem TOK.undP_str (hT : TOK P T) {t : TypeId} (h : (T t).ty = .str) : P.underlying t = some .string := by
 obtain ⟨d, a, b⟩ := TOK.undP hT h (by simp); simp only [TyRel] at b; rw [a, b]
theorem TOK.undP_slice (hT : TOK P T) {t e : TypeId} (h : (T t).ty = .slice e) : P.underlying t = some (.slice e) := by
 obtain ⟨d, a, b⟩ := TOK.undP hT h (by simp); simp only [TyRel] at b; rw [a, b]

theorem unD_sound {op : UnOp} {x : DV} {vx : Value} {C : Prop} {d : DV} (hx : RelV G σ w x vx) (h : unD op x = some (C, d)) : VRun P G σ w (Op.unary op vx) d := by
 unfold unD at h
 split at h
 ·simp only [Option.some.injEq, Prod.mk.injEq] at h; obtain ⟨rfl, rfl⟩ := h; cases hx
  exact ⟨_, rfl, .int _ _⟩
 ·simp only [Option.some.injEq, Prod.mk.injEq] at h; obtain ⟨rfl, rfl⟩ := h; cases hx
  exact ⟨_, rfl, .int _ _⟩
 ·simp only [Option.some.injEq, Prod.mk.injEq] at h; obtain ⟨rfl, rfl⟩ := h; cases hx
  exact ⟨_, rfl, .bool _⟩
 ·simp at h

end

section
variable {G : Gh} {σ : Store} {w : World}
def MemAt (G : Gh) (σ : Store) (w : World) (b o : Nat) (cs : List DV) : Prop :=
 ∃ vs, RelL G σ w cs vs ∧ ∀ (j : Nat) v, vs[j]? = some v → w.cell? ⟨b, o + j, none⟩ = some v

theorem MemAt.of_fun {b o : Nat} {cs : List DV} {vs : Nat → Value} (hm : ∀ i, i < cs.length → w.cell? ⟨b, o + i, none⟩ = some (vs i))
  (hr : ∀ (i : Nat) d, cs[i]? = some d → RelV G σ w d (vs i)) : MemAt G σ w b o cs := by
 refine ⟨(List.range cs.length).map vs, ⟨by simp, fun i c v hc hv => ?_⟩, fun j v hv => ?_⟩
 ·have hi := (List.getElem?_eq_some_iff.1 hc).1
  simp [hi] at hv
  exact hv ▸ hr i c hc
 ·have hj : j < cs.length := by have := (List.getElem?_eq_some_iff.1 hv).1; simpa using this
  simp [hj] at hv
  rw [hm j hj, hv]
theorem MemAt.drop {b o : Nat} {cs : List DV} (h : MemAt G σ w b o cs) (k : Nat) : MemAt G σ w b (o + k) (cs.drop k) := by
 obtain ⟨vs, hr, hm⟩ := h
 refine ⟨vs.drop k, hr.drop k, fun j v hv => ?_⟩
 rw [List.getElem?_drop] at hv
 rw [Nat.add_assoc]; exact hm _ v hv
theorem MemAt.take {b o : Nat} {cs : List DV} (h : MemAt G σ w b o cs) (k : Nat) : MemAt G σ w b o (cs.take k) := by
 obtain ⟨vs, hr, hm⟩ := h
 refine ⟨vs.take k, hr.take k, fun j v hv => ?_⟩
 rw [List.getElem?_take] at hv
 split at hv
 ·exact hm _ v hv
 ·simp at hv
theorem MemAt.to_fun {b o : Nat} {cs : List DV} (h : MemAt G σ w b o cs) : ∃ vs : Nat → Value, (∀ i, i < cs.length → w.cell? ⟨b, o + i, none⟩ = some (vs i)) ∧ ∀ (i : Nat) d, cs[i]? = some d → RelV G σ w d (vs i) := by
 obtain ⟨vs, hr, hm⟩ := h
 refine ⟨fun i => vs.getD i Go.undef, fun i hi => ?_, fun i d hd => ?_⟩
 ·have : i < vs.length := by rw [hr.1]; exact hi
  exact hm i _ (by simp [List.getD_eq_getElem?_getD, List.getElem?_eq_getElem this])
 ·obtain ⟨v, hv, h⟩ := hr.get hd
  simp [List.getD_eq_getElem?_getD, hv, h]

end

section
variable {P : Program} {T : TypeId → TI} {G : Gh} {σ : Store} (w : World)

theorem part_sound (hT : TOK P T) {cs : List DV} {vs : List Value} (hr : RelL G σ w cs vs) {t : TypeId} {off : Nat} {C : Prop} {d : DV}
  (h : partD T t cs off = some (C, d)) (hc : C) : VRun P G σ w (part t vs.toArray off) d := by
 unfold partD at h
 split at h <;> rename_i ha <;> simp only [Option.some.injEq, Prod.mk.injEq] at h <;> obtain ⟨rfl, rfl⟩ := h
 ·refine ⟨.agg ((vs.drop off).take (T t).size).toArray, ?_, .agg _ _ ((hr.drop off).take _).1 ((hr.drop off).take _).2⟩
  simp [part, TOK.isAgg hT w hc.1, TOK.size hT w hc.1, ha]
 ·have hl : off < vs.length := by rw [hr.1]; exact hc.2
  refine ⟨vs[off], ?_, ?_⟩
  ·simp [part, TOK.isAgg hT w hc.1, ha, List.getElem?_eq_getElem hl]
  ·exact hr.2 off _ _ (by rw [List.getD_eq_getElem?_getD, List.getElem?_eq_getElem hc.2]; rfl) (List.getElem?_eq_getElem hl)

theorem loadVar_sound (hT : TOK P T) {b o : Nat} {cs : List DV} (hm : MemAt G σ w b o cs) {t : TypeId} {off : Nat} {C : Prop} {d : DV}
  (h : partD T t cs off = some (C, d)) (hc : C) : VRun P G σ w (loadVar t ⟨b, o + off, none⟩) d := by
 unfold partD at h
 split at h <;> rename_i ha <;> simp only [Option.some.injEq, Prod.mk.injEq] at h <;> obtain ⟨rfl, rfl⟩ := h
 ·obtain ⟨vs, hr, hv⟩ := (hm.drop off).take (T t).size
  refine ⟨.agg vs.toArray, ?_, .agg _ _ hr.1 hr.2⟩
  have hlen : vs.length = (T t).size := by rw [hr.1]; simp; omega
  have hl := run_loadCells_list (P := P) w ⟨b, o + off, none⟩ vs (fun j v hj => by rw [Addr_add]; exact hv j v hj)
  rw [hlen] at hl
  simp [loadVar, TOK.isAgg hT w hc.1, TOK.size hT w hc.1, ha, hl]
 ·obtain ⟨vs, hr, hv⟩ := hm
  have hl : off < vs.length := by rw [hr.1]; exact hc.2
  refine ⟨vs[off], ?_, ?_⟩
  ·have := hv off _ (List.getElem?_eq_getElem hl)
   simp [loadVar, TOK.isAgg hT w hc.1, ha, this]
  ·exact hr.2 off _ _ (by rw [List.getD_eq_getElem?_getD, List.getElem?_eq_getElem hc.2]; rfl) (List.getElem?_eq_getElem hl)

theorem fieldOff_gs (hT : TOK P T) {s : TypeId} {f : Nat} {t off : Nat} (h : fieldOff T s f = some (t, off)) :
  ∃ gs fd, (underlying s).run P w = .ok (.struct gs) w ∧ gs[f]? = some fd ∧ fd.type = t ∧ fd.offset = off := by
 unfold fieldOff at h
 split at h
 ·rename_i fs hy
  obtain ⟨gs, a, e⟩ := TOK.und_struct hT w hy
  subst e
  simp at h
  obtain ⟨fd, h1, h2, h3⟩ := h
  exact ⟨gs, fd, a, h1, h2, h3⟩
 ·simp at h

theorem fieldD_sound (hT : TOK P T) {s : TypeId} {x : DV} {vx : Value} {f : Nat} {C : Prop} {d : DV} (hx : RelV G σ w x vx)
  (h : fieldD T s x f = some (C, d)) (hc : C) : VRun P G σ w (Instr.field s vx f) d := by
 unfold fieldD at h
 split at h
 ·rename_i cs t off hf
  obtain ⟨gs, fd, a, b, rfl, rfl⟩ := fieldOff_gs (P := P) w hT hf
  cases hx with
  | agg cs vs hl hr =>
   obtain ⟨v, hv, hd⟩ := part_sound w hT ⟨hl, hr⟩ h hc
   exact ⟨v, by simp [Instr.field, a, b, asAgg, hv], hd⟩
 ·simp at h

theorem fieldAddrD_sound (hT : TOK P T) {s : TypeId} {x : DV} {vx : Value} {f : Nat} {C : Prop} {d : DV} (hx : RelV G σ w x vx)
  (hrow : ∀ id len i o, x = .rp id len i o → ∃ R, σ.rows[id]? = some (some R) ∧ R.xs.length = len)
  (h : fieldAddrD T s x f = some (C, d)) (hc : C) : VRun P G σ w (Instr.fieldAt s vx f) d := by
 unfold fieldAddrD at h
 split at h
 ·rename_i t off hf
  obtain ⟨gs, fd, a, b, rfl, rfl⟩ := fieldOff_gs (P := P) w hT hf
  split at h <;> simp only [Option.some.injEq, Prod.mk.injEq, reduceCtorEq] at h
  ·obtain ⟨rfl, rfl⟩ := h
   cases hx with
   | ptr b1 o1 hb =>
    refine ⟨_, ?_, .ptr _ _ hb⟩
    simp [Instr.fieldAt, a, b, Instr.sureAddr, fieldPlace, TOK.size hT w hc.1, hc.2, Addr_add]
  ·obtain ⟨rfl, rfl⟩ := h
   cases hx with
   | cp cs b' o' vs him hm hr =>
    obtain ⟨us, h1, h2⟩ := ((MemAt.of_fun hm hr).drop fd.offset).to_fun
    refine ⟨.pointer (some ⟨b', o' + fd.offset, none⟩), ?_, .cp _ _ _ us him h1 h2⟩
    simp [Instr.fieldAt, a, b, Instr.sureAddr, fieldPlace, TOK.size hT w hc.1, hc.2, Addr_add]
  ·obtain ⟨rfl, rfl⟩ := h
   rename_i id len i o
   obtain ⟨R, hR, hRl⟩ := hrow _ _ _ _ rfl
   cases hx with
   | rp id len i o v hid hle hv =>
    obtain ⟨g, n, c, e1, rfl⟩ := hv R hR hRl
    refine ⟨.pointer (some ⟨g, i * R.st + o + fd.offset, none⟩), ?_, .rp _ _ _ _ _ hid hle (fun R' hR' hl' => ?_)⟩
    ·simp [Instr.fieldAt, a, b, Instr.sureAddr, fieldPlace, TOK.size hT w hc.1, hc.2, Addr_add]
    ·rw [hR] at hR'; injection hR' with hR'; injection hR' with hR'; subst hR'
     exact ⟨g, n, c, e1, by rw [Nat.add_assoc]⟩
 ·simp at h

theorem flat_len {xs : List DV} {st : Nat} (h : ∀ x ∈ xs, x.cells.length = st) : (flat xs).length = xs.length * st := by
 induction xs with
 | nil => simp [flat]
 | cons x xs ih =>
  simp only [flat, List.flatMap_cons, List.length_append, List.length_cons] at *
  rw [h x (by simp), ih (fun y hy => h y (by simp [hy])), Nat.add_mul, Nat.one_mul, Nat.add_comm]
theorem flat_take {xs : List DV} {st : Nat} (h : ∀ x ∈ xs, x.cells.length = st) (k : Nat) : flat (xs.take k) = (flat xs).take (k * st) := by
 induction xs generalizing k with
 | nil => simp [flat]
 | cons x xs ih =>
  cases k with
  | zero => simp [flat]
  | succ k =>
   have hx := h x (by simp)
   have := ih (fun y hy => h y (by simp [hy])) k
   simp only [flat, List.take_succ_cons, List.flatMap_cons] at *
   rw [this, Nat.succ_mul, List.take_append, List.take_of_length_le (l := x.cells) (by rw [hx]; omega), hx, Nat.add_sub_cancel]
theorem flat_drop {xs : List DV} {st : Nat} (h : ∀ x ∈ xs, x.cells.length = st) (k : Nat) : flat (xs.drop k) = (flat xs).drop (k * st) := by
 induction xs generalizing k with
 | nil => simp [flat]
 | cons x xs ih =>
  cases k with
  | zero => simp
  | succ k =>
   have hx := h x (by simp)
   have := ih (fun y hy => h y (by simp [hy])) k
   simp only [flat, List.drop_succ_cons, List.flatMap_cons] at *
   rw [this, Nat.succ_mul, List.drop_append, List.drop_of_length_le (l := x.cells) (by rw [hx]; omega), hx, Nat.add_sub_cancel, List.nil_append]
theorem flat_append (xs ys : List DV) : flat (xs ++ ys) = flat xs ++ flat ys := by simp [flat]
theorem flat_at {xs : List DV} {st : Nat} (h : ∀ x ∈ xs, x.cells.length = st) (i : Nat) (hi : i < xs.length) : ((flat xs).drop (i * st)).take st = (xs.getD i .undef).cells := by
 rw [← flat_drop h, List.drop_eq_getElem_cons hi]
 simp only [flat, List.flatMap_cons]
 rw [List.take_append_of_le_length (by rw [h _ (List.getElem_mem hi)]; exact Nat.le_refl _), List.take_of_length_le (by rw [h _ (List.getElem_mem hi)]; exact Nat.le_refl _)]
 simp [List.getD_eq_getElem?_getD, List.getElem?_eq_getElem hi]

end

section
variable {G : Gh} {σ : Store} {w : World}
theorem RelV.sl_mem {xs : List DV} {v : Value} (h : RelV G σ w (.sl xs) v) : ∃ A c st, v = .slice A xs.length c ∧ xs.length ≤ c ∧ (∀ x ∈ xs, x.cells.length = st) ∧
  (xs = [] ∨ ∃ b o, A = some ⟨b, o, none⟩ ∧ G.own b = .imm ∧ MemAt G σ w b o (flat xs)) := by
 cases h with
 | sl xs A n c st b o vs hn hc hA hst hm hr =>
  subst hn
  refine ⟨A, c, st, rfl, hc, hst, ?_⟩
  rcases hA with h | ⟨h, hi⟩
  ·exact .inl h
  ·exact .inr ⟨b, o, h, hi, MemAt.of_fun hm hr⟩
theorem RelV.slt_mem {xs : List DV} {v : Value} (h : RelV G σ w (.slt xs) v) : ∃ A st, v = .slice A xs.length xs.length ∧ (∀ x ∈ xs, x.cells.length = st) ∧
  (xs = [] ∨ ∃ b o, A = some ⟨b, o, none⟩ ∧ G.own b = .imm ∧ MemAt G σ w b o (flat xs)) := by
 cases h with
 | slt xs A n st b o vs hn hA hst hm hr =>
  subst hn
  refine ⟨A, st, rfl, hst, ?_⟩
  rcases hA with h | ⟨h, hi⟩
  ·exact .inl h
  ·exact .inr ⟨b, o, h, hi, MemAt.of_fun hm hr⟩
theorem RelV.sl_mk {xs : List DV} {A : Option Addr} {c st : Nat} (hc : xs.length ≤ c) (hst : ∀ x ∈ xs, x.cells.length = st)
  (h : xs = [] ∨ ∃ b o, A = some ⟨b, o, none⟩ ∧ G.own b = .imm ∧ MemAt G σ w b o (flat xs)) : RelV G σ w (.sl xs) (.slice A xs.length c) := by
 rcases h with rfl | ⟨b, o, rfl, hi, hm⟩
 ·exact .sl [] A _ c 0 0 0 (fun _ => Go.undef) rfl hc (.inl rfl) (by simp) (by simp [flat]) (by simp [flat])
 ·obtain ⟨vs, h1, h2⟩ := hm.to_fun
  exact .sl xs _ _ c st b o vs rfl hc (.inr ⟨rfl, hi⟩) hst h1 h2
theorem RelV.slt_mk {xs : List DV} {A : Option Addr} {st : Nat} (hst : ∀ x ∈ xs, x.cells.length = st)
  (h : xs = [] ∨ ∃ b o, A = some ⟨b, o, none⟩ ∧ G.own b = .imm ∧ MemAt G σ w b o (flat xs)) : RelV G σ w (.slt xs) (.slice A xs.length xs.length) := by
 rcases h with rfl | ⟨b, o, rfl, hi, hm⟩
 ·exact .slt [] A _ 0 0 0 (fun _ => Go.undef) rfl (.inl rfl) (by simp) (by simp [flat]) (by simp [flat])
 ·obtain ⟨vs, h1, h2⟩ := hm.to_fun
  exact .slt xs _ _ st b o vs rfl (.inr ⟨rfl, hi⟩) hst h1 h2
theorem RelV.sl_of_slt {xs : List DV} {v : Value} (h : RelV G σ w (.slt xs) v) : RelV G σ w (.sl xs) v := by
 obtain ⟨A, st, rfl, hst, hm⟩ := h.slt_mem
 exact RelV.sl_mk (Nat.le_refl _) hst hm
theorem RelV.cp_mk {cs : List DV} {b o : Nat} (hi : G.own b = .imm) (hm : MemAt G σ w b o cs) : RelV G σ w (.cp cs) (.pointer (some ⟨b, o, none⟩)) := by
 obtain ⟨vs, h1, h2⟩ := hm.to_fun
 exact .cp cs b o vs hi h1 h2
theorem RelV.cp_mem {cs : List DV} {v : Value} (h : RelV G σ w (.cp cs) v) : ∃ b o, v = .pointer (some ⟨b, o, none⟩) ∧ G.own b = .imm ∧ MemAt G σ w b o cs := by
 cases h with
 | cp cs b o vs him hm hr => exact ⟨b, o, rfl, him, MemAt.of_fun hm hr⟩
end

section
variable {P : Program} {T : TypeId → TI} {G : Gh} {σ : Store} (w : World)

theorem getD_drop_cells {cs : List UInt8} {n : Nat} (h : n < cs.length) : (⟨cs.toArray⟩ : ByteArray)[n]? = some (cs.getD n 0) := by
 have hs : n < (⟨cs.toArray⟩ : ByteArray).size := by simpa [ByteArray.size] using h
 rw [getElem?_pos (⟨cs.toArray⟩ : ByteArray) n hs]
 congr 1
 show cs.toArray[n] = _
 simp [List.getD_eq_getElem?_getD, List.getElem?_eq_getElem h]

theorem indexD_sound (hT : TOK P T) {t : TypeId} {x i : DV} {vx vi : Value} {C : Prop} {d : DV} (hx : RelV G σ w x vx) (hi : RelV G σ w i vi)
  (h : indexD T t x i = some (C, d)) (hc : C) : VRun P G σ w (Instr.index t vx vi) d := by
 unfold indexD at h
 split at h
 ·rename_i s k n hy
  simp only [Option.some.injEq, Prod.mk.injEq] at h; obtain ⟨rfl, rfl⟩ := h
  cases hx; cases hi
  refine ⟨.int .u8 (s.getD n.toNat 0).toNat, ?_, .int _ _⟩
  simp only [Instr.index, asIntOf, Sem.run_bind, Sem.run_pure, Result.andThen_ok, TOK.und_str hT w hy]
  rw [if_pos hc.1, getD_drop_cells (by omega)]
  rfl
 ·rename_i len e cs k n hy
  split at h
  ·rename_i C' d' hp
   simp only [Option.some.injEq, Prod.mk.injEq] at h; obtain ⟨rfl, rfl⟩ := h
   obtain ⟨h0, h1, hc⟩ := hc
   cases hi
   cases hx with
   | agg cs vs hl hr =>
    have hne : (T e).ty ≠ .other := by
     unfold partD at hp
     split at hp <;> simp only [Option.some.injEq, Prod.mk.injEq] at hp <;> obtain ⟨rfl, _⟩ := hp <;> exact hc.1
    obtain ⟨v, hv, hd⟩ := part_sound w hT ⟨hl, hr⟩ hp hc
    refine ⟨v, ?_, hd⟩
    simp only [Instr.index, asIntOf, Sem.run_bind, Sem.run_pure, Result.andThen_ok, TOK.und_array hT w hy]
    rw [if_pos ⟨h0, h1⟩]
    simp [TOK.size hT w hne, hv]
  ·simp at h
 ·simp at h

theorem indexAddrD_sound (hT : TOK P T) {w0 : World} (hS : StoreRel w0 G σ w) {t : TypeId} {x i : DV} {vx vi : Value} {C : Prop} {d : DV} (hx : RelV G σ w x vx) (hi : RelV G σ w i vi)
  (h : indexAddrD T σ t x i = some (C, d)) (hc : C) : VRun P G σ w (Instr.indexAt t vx vi) d := by
 have key : ∀ (e : TypeId) (xs : List DV) (A : Option Addr) (c st : Nat) (k : IntKind) (n : Int), (T t).ty = .slice e → 0 ≤ n → n < xs.length → (T e).ty ≠ .other →
   (xs.getD n.toNat .undef).cells.length = (T e).size → (∀ x ∈ xs, x.cells.length = st) → (xs = [] ∨ ∃ b o, A = some ⟨b, o, none⟩ ∧ G.own b = .imm ∧ MemAt G σ w b o (flat xs)) →
   VRun P G σ w (Instr.indexAt t (.slice A xs.length c) (.int k n)) (.cp (xs.getD n.toNat .undef).cells) := by
  intro e xs A c st k n hy h0 h1 hne hsz hst hm
  rcases hm with rfl | ⟨b, o, rfl, him, hm⟩
  ·simp at h1; omega
  ·have hlt : n.toNat < xs.length := by omega
   have hst' : st = (T e).size := by
    rw [← hsz, List.getD_eq_getElem?_getD, List.getElem?_eq_getElem hlt]
    exact (hst _ (List.getElem_mem hlt)).symm
   subst hst'
   refine ⟨.pointer (some ⟨b, o + n.toNat * (T e).size, none⟩), ?_, RelV.cp_mk him ?_⟩
   ·simp only [Instr.indexAt, asIntOf, Sem.run_bind, Sem.run_pure, Result.andThen_ok, TOK.und_slice hT w hy, Sem.run_ite]
    rw [if_pos ⟨h0, h1⟩]
    simp [TOK.size hT w hne, Addr_add]
   ·rw [← flat_at hst n.toNat hlt]
    exact (hm.drop _).take _
 unfold indexAddrD at h
 split at h
 ·rename_i e xs k n hy
  simp only [Option.some.injEq, Prod.mk.injEq] at h; obtain ⟨rfl, rfl⟩ := h
  cases hi
  obtain ⟨A, c, st, rfl, _, hst, hm⟩ := hx.sl_mem
  exact key e xs A c st k n hy hc.1 hc.2.1 hc.2.2.1 hc.2.2.2 hst hm
 ·rename_i e xs k n hy
  simp only [Option.some.injEq, Prod.mk.injEq] at h; obtain ⟨rfl, rfl⟩ := h
  cases hi
  obtain ⟨A, st, rfl, hst, hm⟩ := hx.slt_mem
  exact key e xs A _ st k n hy hc.1 hc.2.1 hc.2.2.1 hc.2.2.2 hst hm
 ·rename_i e id len k n hy
  split at h
  ·rename_i R hR
   simp only [Option.some.injEq, Prod.mk.injEq] at h; obtain ⟨rfl, rfl⟩ := h
   obtain ⟨h0, h1, hl, hne, hst⟩ := hc
   cases hi
   cases hx with
   | row id len v hid hle hv =>
    have e1 := hv R hR hl
    subst e1
    obtain ⟨hpos, hall, A, m, c, hA, hm, hmc, hrow⟩ := hS.rows id R hR
    have hc0 : c ≠ 0 := by omega
    obtain ⟨g, arr, fr, rfl, hg, hh, _, hsz, hcell⟩ := hrow.resolve_left hc0
    rw [hA]
    refine ⟨.pointer (some ⟨g, n.toNat * (T e).size, none⟩), ?_, .rp _ _ _ _ _ hid hle (fun R' hR' hl' => ?_)⟩
    ·simp only [Instr.indexAt, asIntOf, Sem.run_bind, Sem.run_pure, Result.andThen_ok, TOK.und_slice hT w hy, Sem.run_ite]
     rw [if_pos ⟨h0, by omega⟩]
     simp [TOK.size hT w hne, Addr_add]
    ·rw [hR] at hR'; injection hR' with hR'; injection hR' with hR'; subst hR'
     exact ⟨g, m, c, hA, by rw [hst]; rfl⟩
  ·simp at h
 ·rename_i len e b off k n hy
  simp only [Option.some.injEq, Prod.mk.injEq] at h; obtain ⟨rfl, rfl⟩ := h
  obtain ⟨h0, h1, hne⟩ := hc
  cases hi
  cases hx with
  | ptr b off hb =>
   refine ⟨_, ?_, .ptr _ _ hb⟩
   simp only [Instr.indexAt, asIntOf, Sem.run_bind, Sem.run_pure, Result.andThen_ok, TOK.und_array hT w hy, Instr.sureAddr, Sem.run_ite]
   rw [if_pos ⟨h0, h1⟩]
   simp [TOK.size hT w hne, Addr_add]
 ·rename_i len e cs k n hy
  simp only [Option.some.injEq, Prod.mk.injEq] at h; obtain ⟨rfl, rfl⟩ := h
  obtain ⟨h0, h1, hne⟩ := hc
  cases hi
  obtain ⟨b, o, rfl, him, hm⟩ := hx.cp_mem
  refine ⟨.pointer (some ⟨b, o + n.toNat * (T e).size, none⟩), ?_, RelV.cp_mk him (hm.drop _)⟩
  simp only [Instr.indexAt, asIntOf, Sem.run_bind, Sem.run_pure, Result.andThen_ok, TOK.und_array hT w hy, Instr.sureAddr, Sem.run_ite]
  rw [if_pos ⟨h0, h1⟩]
  simp [TOK.size hT w hne, Addr_add]
 ·simp at h

theorem box_mem {w0 : World} (hS : StoreRel w0 G σ w) {b : Nat} {B : Box} (h : σ.boxes[b]? = some (some B)) : MemAt G σ w (G.boxB b) 0 B.cs := by
 obtain ⟨ho, arr, hh, hr⟩ := hS.boxes b B h
 refine ⟨arr.toList, hr, fun j v hv => ?_⟩
 rw [Nat.zero_add, cell_of_row w _ j arr _ _ hh]
 simpa using hv

theorem row_mem {w0 : World} (hS : StoreRel w0 G σ w) {id : Nat} {R : Row} (h : σ.rows[id]? = some (some R)) :
  ∃ A c, G.rowV id = .slice A R.xs.length c ∧ (R.xs = [] ∨ ∃ g, A = some ⟨g, 0, none⟩ ∧ MemAt G σ w g 0 (flat R.xs)) := by
 obtain ⟨hpos, hall, A, m, c, hA, rfl, hmc, hrow⟩ := hS.rows id R h
 refine ⟨A, c, hA, ?_⟩
 rcases hrow with rfl | ⟨g, arr, fr, rfl, hg, hh, _, hsz, hcell⟩
 ·exact .inl (List.eq_nil_of_length_eq_zero (by omega))
 ·refine .inr ⟨g, rfl, ?_⟩
  have hl := flat_len hall
  have hle : (flat R.xs).length ≤ arr.size := by rw [hl, hsz]; exact Nat.mul_le_mul_right _ hmc
  refine ⟨arr.toList.take (flat R.xs).length, ⟨by simp; omega, fun i d v hd hv => ?_⟩, fun j v hv => ?_⟩
  ·have hi := (List.getElem?_eq_some_iff.1 hd).1
   rw [List.getElem?_take, if_pos hi] at hv
   exact hcell i d v hd (by simpa using hv)
  ·rw [List.getElem?_take] at hv
   split at hv
   ·rw [Nat.zero_add, cell_of_row w _ j arr _ _ hh]; simpa using hv
   ·simp at hv

theorem loadD_sound (hT : TOK P T) {w0 : World} (hS : StoreRel w0 G σ w) {t : TypeId} {x : DV} {vx : Value} {C : Prop} {d : DV} (hx : RelV G σ w x vx)
  (h : loadD T σ t x = some (C, d)) (hc : C) : VRun P G σ w (Instr.loadAt t vx) d := by
 unfold loadD at h
 split at h
 ·obtain ⟨b, o, rfl, him, hm⟩ := hx.cp_mem
  obtain ⟨v, hv, hd⟩ := loadVar_sound w hT hm h hc
  exact ⟨v, by simpa [Instr.loadAt, Instr.sureAddr] using hv, hd⟩
 ·split at h
  ·rename_i B hB
   cases hx with
   | ptr b off hb =>
    obtain ⟨v, hv, hd⟩ := loadVar_sound w hT (box_mem w hS hB) h hc
    exact ⟨v, by simpa [Instr.loadAt, Instr.sureAddr] using hv, hd⟩
  ·simp at h
 ·rename_i id0 len0 i0 off0
  split at h
  ·rename_i R hR
   split at h
   ·rename_i C' d' hp
    simp only [Option.some.injEq, Prod.mk.injEq] at h; obtain ⟨rfl, rfl⟩ := h
    obtain ⟨hl, hil, hc⟩ := hc
    cases hx with
    | rp _ _ _ _ v hid hle hv =>
     obtain ⟨g, n, c, e1, rfl⟩ := hv R hR hl
     obtain ⟨A, c', e2, hm⟩ := row_mem w hS hR
     have hne : R.xs ≠ [] := by intro he; rw [he] at hl; simp at hl; omega
     obtain ⟨g', rfl, hm1⟩ := hm.resolve_left hne
     rw [e1] at e2
     injection e2 with e2 _ _
     injection e2 with e2
     injection e2 with e2 _ _
     subst e2
     have hall := (hS.rows _ R hR).2.1
     have hm2 := (hm1.drop (i0 * R.st)).take R.st
     rw [flat_at hall i0 (by omega)] at hm2
     obtain ⟨u, hu, hd⟩ := loadVar_sound w hT hm2 hp hc
     exact ⟨u, by simpa [Instr.loadAt, Instr.sureAddr] using hu, hd⟩
   ·simp at h
  ·simp at h
 ·simp at h
end
end Go.Val
end

section
namespace Go.Val
open Go.RowKit
set_option linter.unusedSimpArgs false
set_option linter.unusedVariables false

section
variable {P : Program} {T : TypeId → TI} {G : Gh} {σ : Store} (w : World)

theorem sliceBound_ok {n : Int} {k : IntKind} {y : Nat} {code : BoundsCode} (h0 : 0 ≤ n) (h1 : n.toNat ≤ y) : (Instr.sliceBound (.int k n) y code).run P w = .ok n.toNat w := by
 simp only [Instr.sliceBound, asIntOf, Sem.run_bind, Sem.run_pure, Result.andThen_ok]
 rw [if_pos ⟨h0, by omega⟩]
 rfl

def OptRel (G : Gh) (σ : Store) (w : World) (d : Option DV) (v : Option Value) : Prop :=
 match d, v with
 | none, none => True
 | some d, some v => RelV G σ w d v
 | _, _ => False

theorem sliceBounds_ok {lo hi : Option DV} {vl vh : Option Value} {isS : Bool} {len cap l h : Nat} (hl : OptRel G σ w lo vl) (hh : OptRel G σ w hi vh)
  (el : boundD lo 0 = some l) (eh : boundD hi len = some h) (ol : boundOk lo) (oh : boundOk hi) (lh : l ≤ h) (hc : h ≤ cap) :
  (Instr.sliceBounds isS len cap vl vh none).run P w = .ok (l, h, cap) w := by
 have e1 : (match vh with | some v => Instr.sliceBound v cap (if isS then BoundsCode.sliceAcap else .sliceAlen) | none => pure len : Sem Nat).run P w = .ok h w := by
  cases hi with
  | none => cases vh with
   | none => simp [boundD] at eh; simp [eh]
   | some v => exact hh.elim
  | some d => cases vh with
   | none => exact hh.elim
   | some v =>
    cases d <;> simp [boundD] at eh
    subst eh
    cases hh
    exact sliceBound_ok w oh hc
 have e2 : (match vl with | some v => Instr.sliceBound v h (if (none : Option Value).isSome then BoundsCode.slice3C else .sliceB) | none => pure 0 : Sem Nat).run P w = .ok l w := by
  cases lo with
  | none => cases vl with
   | none => simp [boundD] at el; simp [el]
   | some v => exact hl.elim
  | some d => cases vl with
   | none => exact hl.elim
   | some v =>
    cases d <;> simp [boundD] at el
    subst el
    cases hl
    exact sliceBound_ok w ol lh
 unfold Instr.sliceBounds
 simp only [Sem.run_bind, Sem.run_pure, Result.andThen_ok]
 cases vh <;> cases vl <;> simp_all

theorem sliceBounds_ok3 {lo hi : Option DV} {m : DV} {vl vh : Option Value} {vm : Value} {isS : Bool} {len cap l h k : Nat} (hl : OptRel G σ w lo vl) (hh : OptRel G σ w hi vh) (hm : RelV G σ w m vm)
  (el : boundD lo 0 = some l) (eh : boundD hi len = some h) (ek : boundD (some m) 0 = some k) (hs : hi.isSome) (ol : boundOk lo) (oh : boundOk hi) (om : boundOk (some m)) (lh : l ≤ h) (hk : h ≤ k) (hc : k ≤ cap) :
  (Instr.sliceBounds isS len cap vl vh (some vm)).run P w = .ok (l, h, k) w := by
 have e0 : (Instr.sliceBound vm cap (if isS then BoundsCode.slice3Acap else .slice3Alen)).run P w = .ok k w := by
  cases m <;> simp [boundD] at ek
  subst ek
  cases hm
  exact sliceBound_ok w om hc
 cases hi with
 | none => simp at hs
 | some d => cases vh with
  | none => exact hh.elim
  | some v =>
   have e1 : (Instr.sliceBound v k BoundsCode.slice3B).run P w = .ok h w := by
    cases d <;> simp [boundD] at eh
    subst eh
    cases hh
    exact sliceBound_ok w oh hk
   have e2 : (match vl with | some v => Instr.sliceBound v h BoundsCode.slice3C | none => pure 0 : Sem Nat).run P w = .ok l w := by
    cases lo with
    | none => cases vl with
     | none => simp [boundD] at el; simp [el]
     | some v => exact hl.elim
    | some d => cases vl with
     | none => exact hl.elim
     | some v =>
      cases d <;> simp [boundD] at el
      subst el
      cases hl
      exact sliceBound_ok w ol lh
   unfold Instr.sliceBounds
   simp only [Sem.run_bind, Sem.run_pure, Result.andThen_ok, e0, e1]
   cases vl <;> simp_all

theorem str_cut (s : List UInt8) (l h : Nat) (hl : l ≤ h) (hh : h ≤ s.length) : (⟨s.toArray⟩ : ByteArray).extract l h = ⟨((s.take h).drop l).toArray⟩ := by
 rw [Lib.extract_eq]
 congr 2
 simp [List.drop_take]

theorem sub_mem {xs : List DV} {A : Option Addr} {st l h : Nat} (hst : ∀ x ∈ xs, x.cells.length = st)
  (hm : xs = [] ∨ ∃ b o, A = some ⟨b, o, none⟩ ∧ G.own b = .imm ∧ MemAt G σ w b o (flat xs)) (hl : l ≤ h) (hh : h ≤ xs.length) (hlt : l ≠ h) :
  ∃ b o, A.map (·.add (l * st)) = some ⟨b, o, none⟩ ∧ G.own b = .imm ∧ MemAt G σ w b o (flat ((xs.take h).drop l)) := by
 rcases hm with rfl | ⟨b, o, rfl, hi, hm⟩
 ·simp at hh; omega
 ·refine ⟨b, o + l * st, by simp [Addr_add], hi, ?_⟩
  rw [flat_drop (fun x hx => hst x (List.mem_of_mem_take hx)), flat_take hst]
  exact (hm.take _).drop _

theorem cut_len {xs : List DV} {l h : Nat} (hl : l ≤ h) (hh : h ≤ xs.length) : ((xs.take h).drop l).length = h - l := by simp; omega

theorem sliceD_sound (hT : TOK P T) {t : TypeId} {x : DV} {lo hi mx : Option DV} {vx : Value} {vl vh vm : Option Value} {C : Prop} {d : DV} (hx : RelV G σ w x vx)
  (hlo : OptRel G σ w lo vl) (hhi : OptRel G σ w hi vh) (hmx : OptRel G σ w mx vm) (hD : sliceD T t x lo hi mx = some (C, d)) (hc : C) : VRun P G σ w (Instr.sliceAt t vx vl vh vm) d := by
 have nocut : ∀ (xs : List DV) (h : Nat), (xs.take h).drop h = [] := fun xs h => by rw [List.drop_eq_nil_iff]; simp; omega
 have two : ∀ (e : TypeId) (xs : List DV) (A : Option Addr) (c st l h : Nat), (T t).ty = .slice e → (T e).ty ≠ .other → xs.length ≤ c → (∀ x ∈ xs, x.cells.length = (T e).size) →
   (xs = [] ∨ ∃ b o, A = some ⟨b, o, none⟩ ∧ G.own b = .imm ∧ MemAt G σ w b o (flat xs)) → boundD lo 0 = some l → boundD hi xs.length = some h → boundOk lo → boundOk hi → l ≤ h → h ≤ xs.length → mx = none →
   VRun P G σ w (Instr.sliceAt t (.slice A xs.length c) vl vh vm) (.sl ((xs.take h).drop l)) := by
  intro e xs A c st l h hy hne hcap hst hm el eh ol oh lh hh hnone
  subst hnone
  cases vm with
  | some v => exact hmx.elim
  | none =>
   have hb := sliceBounds_ok (P := P) w (isS := true) (len := xs.length) (cap := c) hlo hhi el eh ol oh lh (by omega)
   have hcut := cut_len lh hh
   refine ⟨.slice (if c = l then A else A.map (·.add (l * (T e).size))) (h - l) (c - l), ?_, ?_⟩
   ·simp [Instr.sliceAt, Instr.slice, TOK.und_slice hT w hy, TOK.size hT w hne, hb]
   ·rw [← hcut]
    refine RelV.sl_mk (by omega) (fun x hx => hst x (List.mem_of_mem_take (List.mem_of_mem_drop hx))) ?_
    by_cases he : l = h
    ·subst he; exact .inl (nocut xs l)
    ·rw [if_neg (by omega)]
     exact .inr (sub_mem w hst hm lh hh he)
 have three : ∀ (e : TypeId) (xs : List DV) (A : Option Addr) (c st l h k : Nat) (m : DV), (T t).ty = .slice e → (T e).ty ≠ .other → xs.length ≤ c → (∀ x ∈ xs, x.cells.length = (T e).size) →
   (xs = [] ∨ ∃ b o, A = some ⟨b, o, none⟩ ∧ G.own b = .imm ∧ MemAt G σ w b o (flat xs)) → boundD lo 0 = some l → boundD hi xs.length = some h → boundD (some m) 0 = some k → hi.isSome → boundOk lo → boundOk hi → boundOk (some m) → l ≤ h → h = k → k ≤ xs.length → mx = some m →
   VRun P G σ w (Instr.sliceAt t (.slice A xs.length c) vl vh vm) (.slt ((xs.take h).drop l)) := by
  intro e xs A c st l h k m hy hne hcap hst hm el eh ek hs ol oh om lh hk hh hsome
  subst hsome
  subst hk
  cases vm with
  | none => exact hmx.elim
  | some vm =>
   have hb := sliceBounds_ok3 (P := P) w (isS := true) (len := xs.length) (cap := c) hlo hhi hmx el eh ek hs ol oh om lh (Nat.le_refl _) (by omega)
   have hcut := cut_len lh hh
   refine ⟨.slice (if h = l then A else A.map (·.add (l * (T e).size))) (h - l) (h - l), ?_, ?_⟩
   ·simp [Instr.sliceAt, Instr.slice, TOK.und_slice hT w hy, TOK.size hT w hne, hb]
   ·rw [← hcut]
    refine RelV.slt_mk (fun x hx => hst x (List.mem_of_mem_take (List.mem_of_mem_drop hx))) ?_
    by_cases he : l = h
    ·subst he; exact .inl (nocut xs l)
    ·rw [if_neg (by omega)]
     exact .inr (sub_mem w hst hm lh hh he)
 unfold sliceD at hD
 split at hD
 ·rename_i s hy
  split at hD
  ·rename_i l hh el eh
   simp only [Option.some.injEq, Prod.mk.injEq] at hD; obtain ⟨rfl, rfl⟩ := hD
   obtain ⟨ol, oh, lh, hle⟩ := hc
   cases hx
   cases vm with
   | some v => exact hmx.elim
   | none =>
    have hb := sliceBounds_ok (P := P) w (isS := false) (len := s.length) (cap := s.length) hlo hhi el eh ol oh lh hle
    have hz : (⟨s.toArray⟩ : ByteArray).size = s.length := by simp [ByteArray.size]
    refine ⟨_, ?_, .str _⟩
    simp [Instr.sliceAt, Instr.slice, TOK.und_str hT w hy, hz, hb, str_cut s l hh lh hle]
  ·simp at hD
 ·rename_i e xs hy
  split at hD
  ·rename_i l hh el eh
   simp only [Option.some.injEq, Prod.mk.injEq] at hD; obtain ⟨rfl, rfl⟩ := hD
   obtain ⟨A, c, st, rfl, hcap, _, hm⟩ := hx.sl_mem
   exact two e xs A c st l hh hy hc.1 hcap hc.2.2.2.2.2 hm el eh hc.2.1 hc.2.2.1 hc.2.2.2.1 hc.2.2.2.2.1 rfl
  ·simp at hD
 ·rename_i e xs hy
  split at hD
  ·rename_i l hh el eh
   simp only [Option.some.injEq, Prod.mk.injEq] at hD; obtain ⟨rfl, rfl⟩ := hD
   obtain ⟨A, st, rfl, _, hm⟩ := hx.slt_mem
   exact two e xs A _ st l hh hy hc.1 (Nat.le_refl _) hc.2.2.2.2.2 hm el eh hc.2.1 hc.2.2.1 hc.2.2.2.1 hc.2.2.2.2.1 rfl
  ·simp at hD
 ·rename_i e xs m hy
  split at hD
  ·rename_i l hh k el eh ek
   simp only [Option.some.injEq, Prod.mk.injEq] at hD; obtain ⟨rfl, rfl⟩ := hD
   obtain ⟨A, c, st, rfl, hcap, _, hm⟩ := hx.sl_mem
   obtain ⟨h1, h2, h3, h4, h5, h6, h7, h8, h9⟩ := hc
   exact three e xs A c st l hh k m hy h1 hcap h9 hm el eh ek h2 h3 h4 h5 h6 h7 h8 rfl
  ·simp at hD
 ·rename_i e xs m hy
  split at hD
  ·rename_i l hh k el eh ek
   simp only [Option.some.injEq, Prod.mk.injEq] at hD; obtain ⟨rfl, rfl⟩ := hD
   obtain ⟨A, st, rfl, _, hm⟩ := hx.slt_mem
   obtain ⟨h1, h2, h3, h4, h5, h6, h7, h8, h9⟩ := hc
   exact three e xs A _ st l hh k m hy h1 (Nat.le_refl _) h9 hm el eh ek h2 h3 h4 h5 h6 h7 h8 rfl
  ·simp at hD
 ·rename_i n e cs hy
  split at hD
  ·rename_i l hh el eh
   simp only [Option.some.injEq, Prod.mk.injEq] at hD; obtain ⟨rfl, rfl⟩ := hD
   obtain ⟨hne, hsz, hn, hall, ol, oh, lh, hle⟩ := hc
   obtain ⟨b, o, rfl, him, hm⟩ := hx.cp_mem
   cases vm with
   | some v => exact hmx.elim
   | none =>
    have hb := sliceBounds_ok (P := P) w (isS := false) (len := n) (cap := n) hlo hhi el eh ol oh lh hle
    have hlen : (cs.take n).length = n := by simp; omega
    have hcut := cut_len (xs := cs.take n) lh (by omega)
    have hfl : ∀ ds : List DV, (∀ x ∈ ds, x.cells = [x]) → flat ds = ds := by
     intro ds
     induction ds with
     | nil => intro _; rfl
     | cons c cs ih =>
      intro hd
      have := ih (fun x hx => hd x (by simp [hx]))
      simp only [flat, List.flatMap_cons, hd c (by simp)] at *
      rw [this]
      rfl
    have hall' : ∀ x ∈ cs.take n, x.cells.length = 1 := fun x hx => by rw [hall x hx]; rfl
    refine ⟨.slice (some (if n = l then ⟨b, o, none⟩ else (⟨b, o, none⟩ : Addr).add (l * (T e).size))) (hh - l) (n - l), ?_, ?_⟩
    ·simp [Instr.sliceAt, TOK.und_array hT w hy, TOK.size hT w hne, hb, Instr.sureAddr]
    ·rw [← hcut]
     refine RelV.sl_mk (by omega) (fun x hx => hall' x (List.mem_of_mem_take (List.mem_of_mem_drop hx))) ?_
     by_cases he : l = hh
     ·subst he; exact .inl (nocut _ l)
     ·rw [if_neg (by omega), hsz]
      have := sub_mem (A := some ⟨b, o, none⟩) w hall' (.inr ⟨b, o, rfl, him, by rw [hfl _ hall]; exact hm.take n⟩) lh (by omega) he
      obtain ⟨b1, o1, e1, h1, h2⟩ := this
      exact .inr ⟨b1, o1, by simpa using e1, h1, h2⟩
  ·simp at hD
 ·simp at hD
end
end Go.Val
end

section
namespace Go.Val
open Go.RowKit
set_option linter.unusedSimpArgs false
set_option linter.unusedVariables false

def ofVal0 : Value → DV
 | .int k n => .int k n
 | .bool b => .bool b
 | .string s => .str s.data.toList
 | .slice none 0 0 => .slt []
 | .pointer none => .nilp
 | .nilFunc => .nilfn
 | _ => .undef
def ofVal : Value → DV
 | .agg cs => .agg (cs.toList.map ofVal0)
 | .int k n => .int k n
 | .bool b => .bool b
 | .string s => .str s.data.toList
 | .slice none 0 0 => .slt []
 | .pointer none => .nilp
 | .nilFunc => .nilfn
 | _ => .undef

def get (slots : List DV) : Operand → DV
 | .tmp t => slots.getD t .undef
 | .const v => ofVal v
 | .func f => .fn (.func f) [] []
 | .global _ => .undef

def Solid (σ : Store) : DV → Prop
 | .undef => False
 | .row id len => ∃ R, σ.rows[id]? = some (some R) ∧ R.xs.length = len
 | .rp id len _ _ => ∃ R, σ.rows[id]? = some (some R) ∧ R.xs.length = len
 | _ => True

def over {α : Type} (cs : List α) (off : Nat) (ds : List α) : List α := cs.take off ++ ds ++ cs.drop (off + ds.length)

def fillD (T : TypeId → TI) (place : Nat → Option (Nat × Nat)) (σ : Store) (cells : List DV) : List (Nat × DV) → Option (Prop × List DV)
 | [] => some (True, cells)
 | (i, d) :: rest =>
  match place i with
  | none => none
  | some (off, size) =>
   match fillD T place σ (over cells off d.cells) rest with
   | some (C, r) => some ((Solid σ d ∧ d.cells.length = size ∧ off + size ≤ cells.length) ∧ C, r)
   | none => none

def buildD (T : TypeId → TI) (σ : Store) (t : TypeId) (parts : List (Nat × DV)) : Option (Prop × DV) :=
 match (T t).ty with
 | .struct fs =>
  match fillD T (fun i => (fs[i]?).map fun f => (f.2, (T f.1).size)) σ (ofVal (T t).zero).cells parts with
  | some (C, cs) => some ((∀ f ∈ fs, (T f.1).ty ≠ .other) ∧ (∃ z, (T t).zero = .agg z) ∧ C, .agg cs)
  | none => none
 | .array n e =>
  match fillD T (fun i => some (i * (T e).size, (T e).size)) σ (ofVal (T t).zero).cells parts with
  | some (C, cs) => some ((T e).ty ≠ .other ∧ (∃ z, (T t).zero = .agg z) ∧ C, .agg cs)
  | none => none
 | _ => none

def lenD (T : TypeId → TI) (σ : Store) (t : TypeId) (x : DV) : Option (Prop × DV) :=
 match (T t).ty, x with
 | .slice _, .sl xs => some (True, .int .i64 xs.length)
 | .slice _, .slt xs => some (True, .int .i64 xs.length)
 | .slice _, .row id len => some (Solid σ (.row id len), .int .i64 len)
 | .str, .str s => some (True, .int .i64 s.length)
 | .map _ _, .mp id =>
  match σ.maps[id]? with
  | some (some M) => some (isIter M = false, .int .i64 M.length)
  | _ => none
 | .map _ _, .cm ks _ => some (True, .int .i64 ks.length)
 | _, _ => none

def arrayPtrD (T : TypeId → TI) (t : TypeId) (x : DV) : Option (Prop × DV) :=
 match (T t).ty, x with
 | .array n _, .sl xs => some (0 < n ∧ n ≤ xs.length, .cp (flat xs))
 | .array n _, .slt xs => some (0 < n ∧ n ≤ xs.length, .cp (flat xs))
 | _, _ => none

section
variable {P : Program} {T : TypeId → TI} {G : Gh} {σ : Store} (w : World)

theorem ofVal0_rel (v : Value) : RelV G σ w (ofVal0 v) v := by
 unfold ofVal0
 split
 ·exact .int _ _
 ·exact .bool _
 ·rename_i s; have := RelV.str (G := G) (σ := σ) (w := w) s.data.toList; simpa using this
 ·exact .slt [] none 0 0 0 0 (fun _ => Go.undef) rfl (.inl rfl) (by simp) (by simp [flat]) (by simp [flat])
 ·exact .nilp
 ·exact .nilfn
 ·exact .undef _
theorem ofVal_rel (v : Value) : RelV G σ w (ofVal v) v := by
 unfold ofVal
 split
 ·rename_i cs
  have := RelV.agg (G := G) (σ := σ) (w := w) (cs.toList.map ofVal0) cs.toList (by simp) (fun i c v hc hv => by
   simp [List.getElem?_map, hv] at hc
   exact hc ▸ ofVal0_rel w v)
  simpa using this
 ·exact .int _ _
 ·exact .bool _
 ·rename_i s; have := RelV.str (G := G) (σ := σ) (w := w) s.data.toList; simpa using this
 ·exact .slt [] none 0 0 0 0 (fun _ => Go.undef) rfl (.inl rfl) (by simp) (by simp [flat]) (by simp [flat])
 ·exact .nilp
 ·exact .nilfn
 ·exact .undef _

theorem get_rel {slots : List DV} {a : Act} (h : RelL G σ w slots a.tmps.toList) (x : Operand) : RelV G σ w (get slots x) (a.eval x) := by
 cases x with
 | tmp t =>
  simp only [get, Act.eval, List.getD_eq_getElem?_getD]
  cases hs : slots[t]? with
  | none => exact .undef _
  | some d =>
   obtain ⟨v, hv, hr⟩ := h.get hs
   have : a.tmps.getD t Go.undef = v := by
    rw [Array.getElem?_toList] at hv
    simp [Array.getD_eq_getD_getElem?, hv]
   rw [this]; exact hr
 | const v => exact ofVal_rel w v
 | global g => exact .undef _
 | func f =>
  have := RelV.fn (G := G) (σ := σ) (w := w) (.func f) [] [] [] [] rfl (by simp) rfl (by simp)
  simpa [get, Act.eval] using this

theorem solid_cells {w0 : World} (hS : StoreRel w0 G σ w) {d : DV} {v : Value} (h : RelV G σ w d v) (hs : Solid σ d) : RelL G σ w d.cells v.cells.toList := by
 cases d with
 | undef => exact hs.elim
 | row i len =>
  obtain ⟨R, hR, hl⟩ := hs
  cases h with
  | row _ _ v hid hle hv =>
   have := hv R hR hl
   subst this
   obtain ⟨_, _, A, n, c, hA, _⟩ := hS.rows i R hR
   rw [hA]
   refine .cons ?_ .nil
   rw [← hA]
   exact .row i len _ hid hle (fun _ _ _ => rfl)
 | rp i len j off =>
  obtain ⟨R, hR, hl⟩ := hs
  have h' := h
  cases h with
  | rp _ _ _ _ v hid hle hv =>
   obtain ⟨g, n, c, _, rfl⟩ := hv R hR hl
   exact .cons h' .nil
 | _ => exact h.cells (by simp) (by simp) (by simp)

theorem unbytes_ints {xs : List DV} (h : xs.all DV.isByte = true) : xs.map DV.cells = xs.map (fun x => [x]) ∧
  ∀ (i : Nat) d, xs[i]? = some d → ∃ n : Int, d = .int .u8 n := by
 rw [List.all_eq_true] at h
 have key : ∀ x ∈ xs, ∃ n : Int, x = .int .u8 n := by
  intro x hx
  have := h x hx
  cases x <;> simp [DV.isByte] at this
  rename_i k n
  cases k <;> simp [DV.isByte] at this
  exact ⟨n, rfl⟩
 refine ⟨List.map_congr_left (fun x hx => by obtain ⟨n, rfl⟩ := key x hx; rfl), fun i d hd => key d (List.mem_of_getElem? hd)⟩

theorem flat_bytes {xs : List DV} (h : xs.all DV.isByte = true) : flat xs = xs := by
 simp only [flat, List.flatMap, (unbytes_ints h).1]
 induction xs with
 | nil => rfl
 | cons x xs ih => simp only [List.map_cons, List.flatten_cons]; rw [ih (by simp at h ⊢; exact h.2)]; rfl

def DV.num : DV → Int
 | .int _ n => n
 | _ => 0

theorem bytes_string (hT : TOK P T) {src dst e : TypeId} (hs : (T src).ty = .slice e) (he : (T e).ty = .int .u8) (hd : (T dst).ty = .str) {xs : List DV} (hb : xs.all DV.isByte = true)
  {A : Option Addr} {c : Nat} (hm : xs = [] ∨ ∃ b o, A = some ⟨b, o, none⟩ ∧ MemAt G σ w b o (flat xs)) :
  (convert src dst (.slice A xs.length c)).run P w = .ok (.string ⟨(unbytes xs).toArray⟩) w := by
 have hs' := TOK.undP_slice hT hs
 have he' := TOK.undP_int hT he
 have hd' := TOK.undP_str hT hd
 rcases hm with rfl | ⟨b, o, rfl, hm⟩
 ·cases A with
  | none => rw [List.length_nil, run_convert_bytes_nil w src e hs' he' 0 c dst hd']; rfl
  | some a =>
   rw [List.length_nil, run_convert_bytes_string w src dst e _ 0 c hs' he' hd']
   simp [Conv.bytesToString, loadCells, loadCellsFrom]
   rfl
 ·rw [flat_bytes hb] at hm
  have h := run_convert_bytes_arg w src e hs' he' b o xs.length c (xs.map DV.num) (by simp) (fun i hi => by
   obtain ⟨vs, hr, hv⟩ := hm
   obtain ⟨v, h1, h2⟩ := hr.get (List.getElem?_eq_getElem hi)
   obtain ⟨n, hn⟩ := (unbytes_ints hb).2 i _ (List.getElem?_eq_getElem hi)
   rw [hn] at h2
   cases h2
   rw [hv i _ h1]
   simp [List.getD_eq_getElem?_getD, List.getElem?_eq_getElem hi, hn, DV.num]) dst hd'
  rw [h]
  congr 3
  simp only [strOfNums, unbytes, List.map_map]
  congr 1
  congr 1
  apply List.map_congr_left
  intro x hx
  obtain ⟨i, hi⟩ := List.mem_iff_getElem?.1 hx
  obtain ⟨n, rfl⟩ := (unbytes_ints hb).2 i _ hi
  rfl

theorem convD_sound (hT : TOK P T) {src dst : TypeId} {x : DV} {vx : Value} {C : Prop} {d : DV} (hx : RelV G σ w x vx)
  (h : convD T src dst x = some (C, d)) (hc : C) : VRun P G σ w (convert src dst vx) d := by
 unfold convD at h
 split at h
 ·rename_i k k' n hy
  simp only [Option.some.injEq, Prod.mk.injEq] at h; obtain ⟨rfl, rfl⟩ := h
  cases hx
  obtain ⟨ds, hs, _⟩ := TOK.und hT w rfl hc
  refine ⟨.int k (k.wrap n), ?_, .int _ _⟩
  simp only [convert, Sem.run_bind, hs, TOK.und_int hT w hy, Result.andThen_ok]
  simp [Conv.intToInt]
 ·rename_i s hy
  simp only [Option.some.injEq, Prod.mk.injEq] at h; obtain ⟨rfl, rfl⟩ := h
  cases hx
  refine ⟨_, ?_, .str s⟩
  simp only [convert, Sem.run_bind, TOK.und_str hT w hc, TOK.und_str hT w hy, Result.andThen_ok]
  simp
 ·rename_i xs hy
  simp only [Option.some.injEq, Prod.mk.injEq] at h; obtain ⟨rfl, rfl⟩ := h
  obtain ⟨⟨e, hs, he⟩, hb⟩ := hc
  obtain ⟨A, c, st, rfl, _, _, hm⟩ := hx.sl_mem
  exact ⟨_, bytes_string w hT hs he hy hb (hm.imp (fun h => h) (fun ⟨b, o, a1, _, a2⟩ => ⟨b, o, a1, a2⟩)), .str _⟩
 ·rename_i xs hy
  simp only [Option.some.injEq, Prod.mk.injEq] at h; obtain ⟨rfl, rfl⟩ := h
  obtain ⟨⟨e, hs, he⟩, hb⟩ := hc
  obtain ⟨A, st, rfl, _, hm⟩ := hx.slt_mem
  exact ⟨_, bytes_string w hT hs he hy hb (hm.imp (fun h => h) (fun ⟨b, o, a1, _, a2⟩ => ⟨b, o, a1, a2⟩)), .str _⟩
 ·simp at h

theorem lenD_sound (hT : TOK P T) {w0 : World} (hS : StoreRel w0 G σ w) {t ty : TypeId} {x : DV} {vx : Value} {C : Prop} {d : DV} (hx : RelV G σ w x vx)
  (h : lenD T σ t x = some (C, d)) (hc : C) : VRun P G σ w (Builtin.len_ #[t] ty #[vx]) d := by
 unfold lenD at h
 split at h
 ·rename_i e xs hy
  simp only [Option.some.injEq, Prod.mk.injEq] at h; obtain ⟨rfl, rfl⟩ := h
  obtain ⟨A, c, st, rfl, _⟩ := hx.sl_mem
  exact ⟨_, by simp [Builtin.len_, TOK.und_slice hT w hy, goInt], .int _ _⟩
 ·rename_i e xs hy
  simp only [Option.some.injEq, Prod.mk.injEq] at h; obtain ⟨rfl, rfl⟩ := h
  obtain ⟨A, st, rfl, _⟩ := hx.slt_mem
  exact ⟨_, by simp [Builtin.len_, TOK.und_slice hT w hy, goInt], .int _ _⟩
 ·rename_i e i len hy
  simp only [Option.some.injEq, Prod.mk.injEq] at h; obtain ⟨rfl, rfl⟩ := h
  obtain ⟨R, hR, hl⟩ := hc
  cases hx with
  | row _ _ v hid hle hv =>
   have := hv R hR hl
   subst this
   obtain ⟨_, _, A, n, c, hA, hn, _⟩ := hS.rows i R hR
   rw [hA]
   refine ⟨_, by simp [Builtin.len_, TOK.und_slice hT w hy, goInt]; rfl, ?_⟩
   rw [hn, hl]
   exact .int _ _
 ·rename_i s hy
  simp only [Option.some.injEq, Prod.mk.injEq] at h; obtain ⟨rfl, rfl⟩ := h
  cases hx
  have hz : (⟨s.toArray⟩ : ByteArray).size = s.length := by simp [ByteArray.size]
  exact ⟨_, by simp [Builtin.len_, TOK.und_str hT w hy, goInt, hz], .int _ _⟩
 ·rename_i k e i hy
  split at h
  ·rename_i M hM
   simp only [Option.some.injEq, Prod.mk.injEq] at h; obtain ⟨rfl, rfl⟩ := h
   cases hx
   obtain ⟨_, ⟨_, es, clock, hh, hz, _⟩ | ⟨_, _, _, _, _, _, _, _, _, rfl, _⟩⟩ := hS.maps i M hM
   rotate_left
   ·cases hc
   refine ⟨.int .i64 M.length, ?_, .int _ _⟩
   simp [Builtin.len_, TOK.und_map hT w hy, goInt, getObj, Sem.run, hh, hz]
  ·simp at h
 ·rename_i k e ks vs hy
  simp only [Option.some.injEq, Prod.mk.injEq] at h; obtain ⟨rfl, rfl⟩ := h
  cases hx with
  | cm _ _ k clock es him hh h1 h2 =>
   refine ⟨.int .i64 ks.length, ?_, .int _ _⟩
   simp [Builtin.len_, TOK.und_map hT w hy, goInt, getObj, Sem.run, hh, h1]
 ·simp at h

theorem arrayPtrD_sound (hT : TOK P T) {t : TypeId} {x : DV} {vx : Value} {C : Prop} {d : DV} (hx : RelV G σ w x vx)
  (h : arrayPtrD T t x = some (C, d)) (hc : C) : VRun P G σ w (Instr.arrayAt t vx) d := by
 unfold arrayPtrD at h
 split at h
 ·rename_i n e xs hy
  simp only [Option.some.injEq, Prod.mk.injEq] at h; obtain ⟨rfl, rfl⟩ := h
  obtain ⟨A, c, st, rfl, _, _, hm⟩ := hx.sl_mem
  rcases hm with rfl | ⟨b, o, rfl, him, hm⟩
  ·simp at hc; omega
  ·refine ⟨_, ?_, RelV.cp_mk him hm⟩
   simp only [Instr.arrayAt, Sem.run_bind, TOK.und_array hT w hy, Result.andThen_ok]
   rw [if_neg (by omega)]
   rfl
 ·rename_i n e xs hy
  simp only [Option.some.injEq, Prod.mk.injEq] at h; obtain ⟨rfl, rfl⟩ := h
  obtain ⟨A, st, rfl, _, hm⟩ := hx.slt_mem
  rcases hm with rfl | ⟨b, o, rfl, him, hm⟩
  ·simp at hc; omega
  ·refine ⟨_, ?_, RelV.cp_mk him hm⟩
   simp only [Instr.arrayAt, Sem.run_bind, TOK.und_array hT w hy, Result.andThen_ok]
   rw [if_neg (by omega)]
   rfl
 ·simp at h
end
end Go.Val
end

section
namespace Go.Val
open Go.RowKit
set_option linter.unusedSimpArgs false
set_option linter.unusedVariables false

theorem foldl_over (off : Nat) : ∀ (l : List Value) (k : Nat) (arr : Array Value), off + k + l.length ≤ arr.size →
  ((l.zipIdx k).foldl (fun cs p => cs.setIfInBounds (off + p.2) p.1) arr).toList = over arr.toList (off + k) l
 | [], k, arr, h => by simp [over]
 | v :: l, k, arr, h => by
  simp only [List.length_cons] at h
  simp only [List.zipIdx_cons, List.foldl_cons]
  rw [foldl_over off l (k + 1) (arr.setIfInBounds (off + k) v) (by simp; omega)]
  simp only [over, Array.toList_setIfInBounds, List.length_cons]
  have h1 : (arr.toList.set (off + k) v).take (off + (k + 1)) = arr.toList.take (off + k) ++ [v] := by
   rw [show off + (k + 1) = off + k + 1 by omega, List.take_succ_eq_append_getElem (by simp; omega)]
   simp [List.take_set_of_le]
  have h2 : (arr.toList.set (off + k) v).drop (off + (k + 1) + l.length) = arr.toList.drop (off + k + (l.length + 1)) := by
   rw [List.drop_set_of_lt (by omega)]
   congr 1
   omega
  rw [h1, h2]
  simp

section
variable {P : Program} {T : TypeId → TI} {G : Gh} {σ : Store} (w : World)

theorem RelL.over {cs ds : List DV} {vs us : List Value} (h : RelL G σ w cs vs) (k : RelL G σ w ds us) (off : Nat) : RelL G σ w (over cs off ds) (Val.over vs off us) := by
 unfold Val.over
 rw [k.1]
 exact ((h.take off).append k).append (h.drop _)

theorem fill_sound {w0 : World} (hS : StoreRel w0 G σ w) {place : Nat → Option (Nat × Nat)} : ∀ (parts : List (Nat × DV)) (pv : List (Nat × Value)) (cells : List DV) (arr : Array Value) (C : Prop) (r : List DV),
  (parts.map (·.1) = pv.map (·.1)) → RelL G σ w (parts.map (·.2)) (pv.map (·.2)) → RelL G σ w cells arr.toList → fillD T place σ cells parts = some (C, r) → C →
  ∃ rs, Instr.fill place arr pv = some rs ∧ RelL G σ w r rs.toList
 | [], pv, cells, arr, C, r, h1, h2, h3, h4, hc => by
  cases pv with
  | nil => simp only [fillD, Option.some.injEq, Prod.mk.injEq] at h4; obtain ⟨_, rfl⟩ := h4; exact ⟨arr, rfl, h3⟩
  | cons p pv => simp at h1
 | (i, d) :: parts, pv, cells, arr, C, r, h1, h2, h3, h4, hc => by
  cases pv with
  | nil => simp at h1
  | cons p pv =>
   obtain ⟨i', v⟩ := p
   simp only [List.map_cons, List.cons.injEq] at h1
   obtain ⟨rfl, h1⟩ := h1
   unfold fillD at h4
   split at h4
   ·simp at h4
   ·rename_i off size hp
    split at h4
    ·rename_i C' r' hf
     simp only [Option.some.injEq, Prod.mk.injEq] at h4
     obtain ⟨rfl, rfl⟩ := h4
     obtain ⟨⟨hs, hl, hb⟩, hc⟩ := hc
     have hv : RelV G σ w d v := h2.2 0 d v rfl rfl
     have hcell := solid_cells w hS hv hs
     have hsz : v.cells.size = size := by rw [← hl, ← hcell.1, Array.length_toList]
     have harr : arr.size = cells.length := by rw [← h3.1, Array.length_toList]
     have hfold : (v.cells.zipIdx.foldl (fun cs (x : Value × Nat) => cs.setIfInBounds (off + x.2) x.1) arr).toList = over arr.toList off v.cells.toList := by
      rw [← Array.foldl_toList, Array.toList_zipIdx]
      exact foldl_over off v.cells.toList 0 arr (by simp; omega)
     obtain ⟨rs, e, hr⟩ := fill_sound hS parts pv (over cells off d.cells) (v.cells.zipIdx.foldl (fun cs (x : Value × Nat) => cs.setIfInBounds (off + x.2) x.1) arr) C' r' h1
      ⟨by simpa using h2.1, fun j c u hc' hu => h2.2 (j + 1) c u (by simpa using hc') (by simpa using hu)⟩ (by rw [hfold]; exact h3.over w hcell off) hf hc
     refine ⟨rs, ?_, hr⟩
     rw [Instr.fill, hp]
     simp only [hsz, ne_eq, not_true_eq_false, decide_false, Bool.false_or, decide_eq_true_eq]
     rw [if_neg (by omega)]
     exact e
    ·simp at h4

theorem mapM_places (hT : TOK P T) : ∀ (gs : List Field), (∀ f ∈ gs, (T f.type).ty ≠ .other) →
  (gs.mapM (m := Sem) fun f => do pure (f.offset, ← sizeOf f.type)).run P w = .ok (gs.map fun f => (f.offset, (T f.type).size)) w
 | [], _ => by simp
 | f :: gs, h => by
  have ih := mapM_places hT gs (fun g hg => h g (by simp [hg]))
  simp only [List.mapM_cons, Sem.run_bind, TOK.size hT w (h f (by simp)), Result.andThen_ok, Sem.run_pure] at ih ⊢
  rw [ih]
  simp

theorem buildD_sound (hT : TOK P T) {w0 : World} (hS : StoreRel w0 G σ w) {t : TypeId} {parts : List (Nat × DV)} {pv : Array (Nat × Value)} {C : Prop} {d : DV}
  (h1 : parts.map (·.1) = pv.toList.map (·.1)) (h2 : RelL G σ w (parts.map (·.2)) (pv.toList.map (·.2)))
  (h : buildD T σ t parts = some (C, d)) (hc : C) : VRun P G σ w (Instr.build t pv) d := by
 unfold buildD at h
 split at h
 ·rename_i fs hy
  split at h
  ·rename_i C' cs hf
   simp only [Option.some.injEq, Prod.mk.injEq] at h; obtain ⟨rfl, rfl⟩ := h
   obtain ⟨hne, ⟨z, hz⟩, hc⟩ := hc
   obtain ⟨gs, hg, he⟩ := TOK.und_struct hT w hy
   subst he
   have hzr : RelL G σ w (ofVal (T t).zero).cells (T t).zero.cells.toList := by
    rw [hz]
    have := ofVal_rel (G := G) (σ := σ) w (.agg z)
    exact this.cells (by simp [ofVal]) (by simp [ofVal]) (by simp [ofVal])
   obtain ⟨rs, e, hr⟩ := fill_sound (T := T) w hS parts pv.toList _ _ _ _ h1 h2 hzr hf hc
   refine ⟨.agg rs, ?_, ?_⟩
   ·have hpl : (gs.mapM (m := Sem) fun f => do pure (f.offset, ← sizeOf f.type)).run P w = .ok (gs.map fun f => (f.offset, (T f.type).size)) w := by
     have := mapM_places (P := P) w hT gs.toList (fun f hf => hne (f.type, f.offset) (by simp; exact ⟨f, by simpa using hf, rfl, rfl⟩))
     rw [Array.mapM_eq_mapM_toList]
     simp only [Sem.run_map, this, Result.andThen_ok]
     congr 1
     apply Array.ext'
     simp
    have hpf : (fun (i : Nat) => (gs.map fun f => (f.offset, (T f.type).size))[i]?) = (fun (i : Nat) => ((gs.toList.map fun f => (f.type, f.offset))[i]?).map fun (f : TypeId × Nat) => (f.2, (T f.1).size)) := by
     funext i
     simp [Option.map_map]
     rfl
    simp only [Instr.build, Sem.run_bind, TOK.zero hT w (by rw [hy]; simp), Result.andThen_ok, hg, hpl]
    rw [hpf, e]
    rfl
   ·obtain ⟨l⟩ := rs
    exact .agg cs l hr.1 hr.2
  ·simp at h
 ·rename_i n e hy
  split at h
  ·rename_i C' cs hf
   simp only [Option.some.injEq, Prod.mk.injEq] at h; obtain ⟨rfl, rfl⟩ := h
   obtain ⟨hne, ⟨z, hz⟩, hc⟩ := hc
   have hzr : RelL G σ w (ofVal (T t).zero).cells (T t).zero.cells.toList := by
    rw [hz]
    have := ofVal_rel (G := G) (σ := σ) w (.agg z)
    exact this.cells (by simp [ofVal]) (by simp [ofVal]) (by simp [ofVal])
   obtain ⟨rs, e1, hr⟩ := fill_sound (T := T) w hS parts pv.toList _ _ _ _ h1 h2 hzr hf hc
   refine ⟨.agg rs, ?_, ?_⟩
   ·simp only [Instr.build, Sem.run_bind, TOK.zero hT w (show (T t).ty ≠ .other by rw [hy]; simp), Result.andThen_ok, TOK.und_array hT w hy, TOK.size hT w hne]
    rw [e1]
    rfl
   ·obtain ⟨l⟩ := rs
    exact .agg cs l hr.1 hr.2
  ·simp at h
 ·simp at h
end

/-! ### one function for the operations without a trace -/
def gets (slots : List DV) (xs : Array Operand) : List DV := xs.toList.map (get slots)

def mmD (mx : Bool) : List DV → Option (Prop × DV)
 | [.int k a, .int k' b] => some (k = k', .int k (if mx then (if b > a then b else a) else (if b < a then b else a)))
 | _ => none

def callD (T : TypeId → TI) (σ : Store) (slots : List DV) (c : Call) : Option (Prop × DV) :=
 match c.callee, c.args.toList, c.argTypes.toList with
 | .builtin .len, [x], [t] => lenD T σ t (get slots x)
 | .builtin .max, xs, _ => mmD true (xs.map (get slots))
 | .builtin .min, xs, _ => mmD false (xs.map (get slots))
 | _, _, _ => none

def nilD (x : DV) : Option (Prop × DV) :=
 match x with
 | .ptr b o => some (True, .ptr b o)
 | .cp cs => some (True, .cp cs)
 | .fn (.func f) a b => some (True, .fn (.func f) a b)
 | _ => none

def stepQ (T : TypeId → TI) (σ : Store) (slots : List DV) (op : Op) : Option (Prop × DV) :=
 match op with
 | .move x | .assign x => some (True, get slots x)
 | .pick c a b =>
  match get slots c with
  | .bool true => some (True, get slots a)
  | .bool false => some (True, get slots b)
  | _ => none
 | .build t parts => buildD T σ t (parts.toList.map fun p => (p.1, get slots p.2))
 | .load t a => loadD T σ t (get slots a)
 | .nilCheck x => nilD (get slots x)
 | .binOp op t x y _ => binD T op t (get slots x) (get slots y)
 | .unOp op _ x => unD op (get slots x)
 | .convert src dst x => convD T src dst (get slots x)
 | .sliceToArrayPointer t x => arrayPtrD T t (get slots x)
 | .makeFunc f fs cs => some (True, .fn f (gets slots fs) (gets slots cs))
 | .slice t x lo hi mx => sliceD T t (get slots x) (lo.map (get slots)) (hi.map (get slots)) (mx.map (get slots))
 | .fieldAddr s x f =>
  match get slots x with
  | .rp id len i o =>
   match fieldAddrD T s (.rp id len i o) f with
   | some (C, d) => some (Solid σ (.rp id len i o) ∧ C, d)
   | none => none
  | d => fieldAddrD T s d f
 | .field s x f => fieldD T s (get slots x) f
 | .indexAddr t x i => indexAddrD T σ t (get slots x) (get slots i)
 | .index t x i => indexD T t (get slots x) (get slots i)
 | .extract x i =>
  match get slots x with
  | .tup vs => some (i < vs.length, vs.getD i .undef)
  | _ => none
 | .call c => callD T σ slots c
 | _ => none

section
variable {P : Program} {T : TypeId → TI} {G : Gh} {σ : Store} (w : World)

theorem gets_rel {slots : List DV} {a : Act} (h : RelL G σ w slots a.tmps.toList) (xs : Array Operand) : RelL G σ w (gets slots xs) (xs.map a.eval).toList := by
 refine ⟨by simp [gets], fun i c v hc hv => ?_⟩
 simp only [gets, List.getElem?_map, Option.map_eq_some_iff] at hc
 simp only [Array.toList_map, List.getElem?_map, Option.map_eq_some_iff] at hv
 obtain ⟨x, hx, rfl⟩ := hc
 obtain ⟨y, hy, rfl⟩ := hv
 rw [hx] at hy; injection hy with hy; subst hy
 exact get_rel w h x
theorem opt_rel {slots : List DV} {a : Act} (h : RelL G σ w slots a.tmps.toList) (x : Option Operand) : OptRel G σ w (x.map (get slots)) (x.map a.eval) := by
 cases x with
 | none => trivial
 | some x => exact get_rel w h x

theorem mmD_sound {mx : Bool} {xs : List DV} {vs : List Value} {ats : Array TypeId} {ty : TypeId} {C : Prop} {d : DV} (hx : RelL G σ w xs vs) (h : mmD mx xs = some (C, d)) (hc : C) :
  VRun P G σ w (if mx then Builtin.max_ ats ty vs.toArray else Builtin.min_ ats ty vs.toArray) d := by
 unfold mmD at h
 split at h
 ·rename_i k a k' b
  simp only [Option.some.injEq, Prod.mk.injEq] at h; obtain ⟨rfl, rfl⟩ := h
  subst hc
  obtain ⟨hl, hr⟩ := hx
  match vs, hl with
  | [u, v], _ =>
   have h0 := hr 0 _ u rfl rfl
   have h1 := hr 1 _ v rfl rfl
   cases h0; cases h1
   cases mx
   ·exact ⟨.int k (if b < a then b else a), by simp [Builtin.min_, Builtin.min2], .int _ _⟩
   ·exact ⟨.int k (if b > a then b else a), by simp [Builtin.max_, Builtin.max2], .int _ _⟩
 ·simp at h

theorem stepQ_sound (hT : TOK P T) {w0 : World} (hS : StoreRel w0 G σ w) {slots : List DV} {a : Act} (hr : RelL G σ w slots a.tmps.toList) {o : Oper} {C : Prop} {d : DV}
  (h : stepQ T σ slots o.op = some (C, d)) (hc : C) : ∃ v, (execOp a.eval o).run P w = .ok (.value v) w ∧ RelV G σ w d v := by
 have lift : ∀ {s : Sem Value}, VRun P G σ w s d → (execOp a.eval o = do pure (.value (← s))) → ∃ v, (execOp a.eval o).run P w = .ok (.value v) w ∧ RelV G σ w d v := by
  intro s ⟨v, hv, hd⟩ he
  exact ⟨v, by rw [he]; simp [hv], hd⟩
 unfold stepQ at h
 split at h
 ·rename_i x ho
  simp only [Option.some.injEq, Prod.mk.injEq] at h; obtain ⟨_, rfl⟩ := h
  exact ⟨_, by simp [execOp, ho], get_rel w hr x⟩
 ·rename_i x ho
  simp only [Option.some.injEq, Prod.mk.injEq] at h; obtain ⟨_, rfl⟩ := h
  exact ⟨_, by simp [execOp, ho], get_rel w hr x⟩
 ·rename_i c x y ho
  have hb := get_rel w hr c
  split at h
  ·rename_i hg
   simp only [Option.some.injEq, Prod.mk.injEq] at h; obtain ⟨_, rfl⟩ := h
   rw [hg] at hb
   generalize hcv : a.eval c = vc at hb
   cases hb
   exact ⟨_, by simp [execOp, ho, hcv, asBool], get_rel w hr x⟩
  ·rename_i hg
   simp only [Option.some.injEq, Prod.mk.injEq] at h; obtain ⟨_, rfl⟩ := h
   rw [hg] at hb
   generalize hcv : a.eval c = vc at hb
   cases hb
   exact ⟨_, by simp [execOp, ho, hcv, asBool], get_rel w hr y⟩
  ·simp at h
 ·rename_i t parts ho
  refine lift (buildD_sound (P := P) (pv := parts.map fun (i, x) => (i, a.eval x)) w hT hS ?_ ?_ h hc) (by simp only [execOp, ho])
  ·simp
  ·refine ⟨by simp, fun i c v h1 h2 => ?_⟩
   simp at h1 h2
   obtain ⟨p, q, h3, rfl⟩ := h1
   obtain ⟨p', q', h4, rfl⟩ := h2
   rw [h3] at h4; injection h4 with h4; injection h4 with _ h4; subst h4
   exact get_rel w hr q
 ·rename_i t x ho
  exact lift (loadD_sound w hT hS (get_rel w hr x) h hc) (by simp only [execOp, ho])
 ·rename_i x ho
  have hb := get_rel w hr x
  generalize hcv : a.eval x = vc at hb
  unfold nilD at h
  split at h
  ·rename_i b o hg
   rw [hg] at hb
   simp only [Option.some.injEq, Prod.mk.injEq] at h; obtain ⟨_, rfl⟩ := h
   have hb' := hb
   cases hb
   exact ⟨_, by simp only [execOp, ho, hcv]; rfl, hb'⟩
  ·rename_i cs hg
   rw [hg] at hb
   simp only [Option.some.injEq, Prod.mk.injEq] at h; obtain ⟨_, rfl⟩ := h
   have hb' := hb
   cases hb
   exact ⟨_, by simp only [execOp, ho, hcv]; rfl, hb'⟩
  ·rename_i f u v hg
   rw [hg] at hb
   simp only [Option.some.injEq, Prod.mk.injEq] at h; obtain ⟨_, rfl⟩ := h
   have hb' := hb
   cases hb
   exact ⟨_, by simp only [execOp, ho, hcv]; rfl, hb'⟩
  ·simp at h
 ·rename_i op t x y u ho
  obtain ⟨v, hv, hd⟩ := binD_sound w hT (get_rel w hr x) (get_rel w hr y) h hc
  refine ⟨v, ?_, hd⟩
  simp only [execOp, ho, Sem.run_bind, binD_guard w (get_rel w hr x) (get_rel w hr y) h x y, Result.andThen_ok, hv]
  rfl
 ·rename_i op t x ho
  exact lift (unD_sound w (get_rel w hr x) h) (by simp only [execOp, ho])
 ·rename_i s d x ho
  exact lift (convD_sound w hT (get_rel w hr x) h hc) (by simp only [execOp, ho])
 ·rename_i t x ho
  exact lift (arrayPtrD_sound w hT (get_rel w hr x) h hc) (by simp only [execOp, ho])
 ·rename_i f fs cs ho
  simp only [Option.some.injEq, Prod.mk.injEq] at h; obtain ⟨_, rfl⟩ := h
  have h1 := gets_rel w hr fs
  have h2 := gets_rel w hr cs
  refine ⟨.func f (fs.map a.eval) (cs.map a.eval), by simp [execOp, ho, Instr.makeFunc], ?_⟩
  have := RelV.fn (G := G) (σ := σ) (w := w) f (gets slots fs) (gets slots cs) _ _ h1.1 h1.2 h2.1 h2.2
  rwa [Array.toArray_toList, Array.toArray_toList] at this
 ·rename_i t x lo hi mx ho
  exact lift (sliceD_sound w hT (get_rel w hr x) (opt_rel w hr lo) (opt_rel w hr hi) (opt_rel w hr mx) h hc) (by simp only [execOp, ho])
 ·rename_i s x f ho
  have hx := get_rel w hr x
  split at h
  ·rename_i i len j off hg
   rw [hg] at hx
   split at h
   ·rename_i C' d' hf
    simp only [Option.some.injEq, Prod.mk.injEq] at h; obtain ⟨rfl, rfl⟩ := h
    exact lift (fieldAddrD_sound w hT hx (fun _ _ _ _ e => by injection e with e1 e2; subst e1; subst e2; exact hc.1) hf hc.2) (by simp only [execOp, ho])
   ·simp at h
  ·rename_i hn
   exact lift (fieldAddrD_sound w hT hx (fun i l j o e => absurd e (hn i l j o)) h hc) (by simp only [execOp, ho])
 ·rename_i s x f ho
  exact lift (fieldD_sound w hT (get_rel w hr x) h hc) (by simp only [execOp, ho])
 ·rename_i t x i ho
  exact lift (indexAddrD_sound w hT hS (get_rel w hr x) (get_rel w hr i) h hc) (by simp only [execOp, ho])
 ·rename_i t x i ho
  exact lift (indexD_sound w hT (get_rel w hr x) (get_rel w hr i) h hc) (by simp only [execOp, ho])
 ·rename_i x i ho
  have hx := get_rel w hr x
  split at h
  ·rename_i vs hg
   rw [hg] at hx
   simp only [Option.some.injEq, Prod.mk.injEq] at h; obtain ⟨rfl, rfl⟩ := h
   generalize hcv : a.eval x = vc at hx
   cases hx with
   | tup _ us hl hr' =>
    have hi : i < us.length := by rw [hl]; exact hc
    refine ⟨us[i], by simp [execOp, ho, hcv, Instr.extract, List.getElem?_eq_getElem hi], ?_⟩
    exact hr' i _ _ (by rw [List.getD_eq_getElem?_getD, List.getElem?_eq_getElem hc]; rfl) (List.getElem?_eq_getElem hi)
  ·simp at h
 ·rename_i c ho
  obtain ⟨callee, args, ats⟩ := c
  unfold callD at h
  split at h
  ·rename_i x t h1 h2 h3
   simp only at h1 h2 h3
   obtain ⟨l⟩ := args
   obtain ⟨l'⟩ := ats
   subst h1
   simp only at h2 h3
   subst h2; subst h3
   obtain ⟨v, hv, hd⟩ := lenD_sound (ty := o.type) w hT hS (get_rel w hr x) h hc
   exact ⟨v, by simp [execOp, ho, resolve, invoke, builtin, hv], hd⟩
  ·rename_i h3
   simp only at h3 h
   subst h3
   obtain ⟨v, hv, hd⟩ := mmD_sound (P := P) (vs := (args.map a.eval).toList) (ats := ats) (ty := o.type) w (gets_rel w hr args) (by simpa [gets] using h) hc
   exact ⟨v, by simp only [if_true, Array.toArray_toList] at hv; simp [execOp, ho, resolve, invoke, builtin, hv], hd⟩
  ·rename_i h3
   simp only at h3 h
   subst h3
   obtain ⟨v, hv, hd⟩ := mmD_sound (P := P) (vs := (args.map a.eval).toList) (ats := ats) (ty := o.type) w (gets_rel w hr args) (by simpa [gets] using h) hc
   exact ⟨v, by simp only [Bool.false_eq_true, if_false, Array.toArray_toList] at hv; simp [execOp, ho, resolve, invoke, builtin, hv], hd⟩
  ·simp at h
 ·simp at h
end
end Go.Val
end

section
namespace Go.Val
open Go.RowKit
set_option linter.unusedSimpArgs false
set_option linter.unusedVariables false

structure St where
 slots : List DV
 σ : Store

def Dfs (G : Gh) (w : World) (ds : List Deferred) : Prop := ds.Nodup ∧ ∀ d ∈ ds, ∃ r, d = { target := .collected r, args := #[] } ∧ G.own r = .dfr 0 ∧ w.heap[r]? = some (.deferred (some []))
theorem Dfs.nil {G : Gh} {w : World} : Dfs G w [] := ⟨List.nodup_nil, by simp⟩
theorem Dfs.ext {G G' : Gh} {σ σ' : Store} {w w' : World} {ds : List Deferred} (h : Dfs G w ds) (hx : Ext G σ w G' σ' w') : Dfs G' w' ds :=
 ⟨h.1, fun d hd => let ⟨r, h1, h2, h3⟩ := h.2 d hd; ⟨r, h1, (hx.dfr r h2).1, (hx.dfr r h2).2.trans h3⟩⟩
def RelS (w0 : World) (G : Gh) (s : St) (a : Act) (w : World) : Prop :=
 Dfs G w a.defers ∧ RelL G s.σ w s.slots a.tmps.toList ∧ StoreRel w0 G s.σ w

def Post (w0 : World) (G0 : Gh) (σ0 : Store) (W0 : World) (Q : Exit → St → Prop) : Exit → Act → World → Prop :=
 fun x a w => ∃ s G, Q x s ∧ RelS w0 G s a w ∧ Ext G0 σ0 W0 G s.σ w

def Ev (P : Program) (c : Code) (s : St) (Q : Exit → St → Prop) : Prop :=
 ∀ w0 G0 σ0 W0 G a w, Ext G0 σ0 W0 G s.σ w → RelS w0 G s a w → c.wp P (Post w0 G0 σ0 W0 Q) a w

def EvL (P : Program) (ops : Array Oper) (l : List Oper) (s : St) (Q : Exit → St → Prop) : Prop :=
 ∀ w0 G0 σ0 W0 G a w, Ext G0 σ0 W0 G s.σ w → RelS w0 G s a w → wpList P ops (Post w0 G0 σ0 W0 Q) l a w

def thenQ (P : Program) (y : Code) (Q : Exit → St → Prop) : Exit → St → Prop
 | .normal, s => Ev P y s Q
 | e, s => Q e s
def blockQ (id : Nat) (Q : Exit → St → Prop) : Exit → St → Prop
 | .exit id', s => if id' = id then Q .normal s else Q (.exit id') s
 | e, s => Q e s

section
variable {P : Program} {T : TypeId → TI} {s : St} {Q Q' : Exit → St → Prop}

theorem Post.mono {w0 : World} {G0 : Gh} {σ0 : Store} {W0 : World} (h : ∀ e s, Q e s → Q' e s) {x : Exit} {a : Act} {w : World} (hp : Post w0 G0 σ0 W0 Q x a w) : Post w0 G0 σ0 W0 Q' x a w := by
 obtain ⟨s, G, hq, r⟩ := hp
 exact ⟨s, G, h _ _ hq, r⟩
theorem Ev.mono {c : Code} (h : Ev P c s Q) (hq : ∀ e s, Q e s → Q' e s) : Ev P c s Q' :=
 fun w0 G0 σ0 W0 G a w hx hr => wp_mono (h w0 G0 σ0 W0 G a w hx hr) (fun _ _ _ hp => hp.mono hq)

theorem Ev_skip (h : Q .normal s) : Ev P .skip s Q := fun w0 G0 σ0 W0 G a w hx hr => wp_skip ⟨s, G, h, hr, hx⟩
theorem Ev_exit {id : Nat} (h : Q (.exit id) s) : Ev P (.exit id) s Q := fun w0 G0 σ0 W0 G a w hx hr => wp_exit ⟨s, G, h, hr, hx⟩
theorem Ev_ret (h : Q .ret s) : Ev P .ret s Q := fun w0 G0 σ0 W0 G a w hx hr => wp_ret ⟨s, G, h, hr, hx⟩
theorem Ev_seq {x y : Code} (h : Ev P x s (thenQ P y Q)) : Ev P (.seq x y) s Q := by
 intro w0 G0 σ0 W0 G a w hx hr
 refine wp_seq (wp_mono (h w0 G0 σ0 W0 G a w hx hr) ?_)
 rintro e a' w' ⟨s', G', hq, hr', hx'⟩
 cases e with
 | normal => exact hq w0 G0 σ0 W0 G' a' w' hx' hr'
 | _ => exact ⟨s', G', hq, hr', hx'⟩
theorem Ev_cond {c : Operand} {x y : Code} {b : Bool} (hc : get s.slots c = .bool b) (ht : b = true → Ev P x s Q) (hf : b = false → Ev P y s Q) : Ev P (.cond c x y) s Q := by
 intro w0 G0 σ0 W0 G a w hx hr
 have hv := get_rel w hr.2.1 c
 rw [hc] at hv
 generalize hcv : a.eval c = vc at hv
 cases hv
 cases b
 ·exact wp_cond_false hcv (hf rfl w0 G0 σ0 W0 G a w hx hr)
 ·exact wp_cond_true hcv (ht rfl w0 G0 σ0 W0 G a w hx hr)
theorem Ev_block {id : Nat} {c : Code} (h : Ev P c s (blockQ id Q)) : Ev P (.block id c) s Q := by
 intro w0 G0 σ0 W0 G a w hx hr
 refine wp_block (wp_mono (h w0 G0 σ0 W0 G a w hx hr) ?_)
 rintro e a' w' ⟨s', G', hq, hr', hx'⟩
 cases e with
 | exit id' =>
  simp only [blockQ] at hq
  simp only [Exit.inBlock]
  split at hq <;> rename_i hid
  ·rw [if_pos hid]; exact ⟨s', G', hq, hr', hx'⟩
  ·rw [if_neg hid]; exact ⟨s', G', hq, hr', hx'⟩
 | _ => exact ⟨s', G', hq, hr', hx'⟩

def Rounds (P : Program) (c : Code) (Q : Exit → St → Prop) : Nat → St → Prop
 | 0, _ => False
 | n + 1, s => Ev P c s (fun e s' => match e with
  | .normal => Rounds P c Q n s'
  | e => Q e s')
theorem Ev_loop {c : Code} (n : Nat) (h : Rounds P c Q n s) : Ev P (.loop c) s Q := by
 intro w0 G0 σ0 W0 G a w hx hr
 refine wp_loop_rounds n ?_
 induction n generalizing s G a w with
 | zero => exact h.elim
 | succ n ih =>
  refine wp_mono (h w0 G0 σ0 W0 G a w hx hr) ?_
  rintro e a' w' ⟨s', G', hq, hr', hx'⟩
  cases e with
  | normal => exact ih hq G' a' w' hx' hr'
  | _ => exact ⟨s', G', hq, hr', hx'⟩
theorem Ev_region {id : Nat} {l : List Oper} (h : EvL P l.toArray l s Q) : Ev P (.region id l.toArray false) s Q :=
 fun w0 G0 σ0 W0 G a w hx hr => wp_region_lit (h w0 G0 σ0 W0 G a w hx hr)

theorem EvL_nil {ops : Array Oper} (h : Q .normal s) : EvL P ops [] s Q := fun w0 G0 σ0 W0 G a w hx hr => ⟨s, G, h, hr, hx⟩

def St.put (s : St) (d : Option Tmp) (v : DV) : St :=
 match d with
 | some t => { s with slots := s.slots.set t v }
 | none => s

theorem RelL_put {G : Gh} {σ : Store} {w : World} {slots : List DV} {a : Act} (h : RelL G σ w slots a.tmps.toList) {d : DV} {v : Value} (hv : RelV G σ w d v) (t : Option Tmp) :
  RelL G σ w (St.put ⟨slots, σ⟩ t d).slots (a.put t v).tmps.toList := by
 cases t with
 | none => exact h
 | some t => simp only [St.put, Act.put, Array.toList_setIfInBounds]; exact h.set t hv
theorem put_defers (a : Act) (t : Option Tmp) (v : Value) : (a.put t v).defers = a.defers := by cases t <;> rfl
theorem put_σ (s : St) (t : Option Tmp) (v : DV) : (s.put t v).σ = s.σ := by cases t <;> rfl

def litG (want : Bool) : DV → Option Bool
 | .bool b => some (b == want)
 | .tup [] => some false
 | _ => none
def wantedD (ops : Array Oper) (slots : List DV) (o : Oper) : Option Bool :=
 match o.guard with
 | none => some true
 | some (j, want) =>
  match ((ops[j]?).bind (·.dst)).map (fun t => slots.getD t .undef) with
  | some d => litG want d
  | none => none

theorem wanted_rel {ops : Array Oper} {slots : List DV} {o : Oper} {b : Bool} {G : Gh} {σ : Store} {w : World} {a : Act} (h : RelL G σ w slots a.tmps.toList) (hw : wantedD ops slots o = some b) :
  Region.wanted o (yielded ops a.tmps) = b := by
 unfold wantedD at hw
 unfold Region.wanted
 split at hw
 ·rename_i hg; rw [hg]; simpa using hw
 ·rename_i j want hg
  rw [hg]
  split at hw
  ·rename_i d0 hc
   simp only [yielded]
   cases hd : (ops[j]?).bind (·.dst) with
   | none => simp [hd] at hc
   | some t =>
    simp only [hd, Option.map_some, Option.some.injEq] at hc
    have hs : ∀ d, slots.getD t .undef = d → d ≠ .undef → slots[t]? = some d := by
     intro d hd hne
     rw [List.getD_eq_getElem?_getD] at hd
     cases hq : slots[t]? with
     | none => rw [hq] at hd; simp at hd; exact absurd hd.symm hne
     | some x => rw [hq] at hd; simp at hd; rw [hd]
    unfold litG at hw
    split at hw
    ·rename_i c
     obtain ⟨v, hv, hr⟩ := h.get (hs _ hc (by simp))
     cases hr
     rw [Array.getElem?_toList] at hv
     simp only [Option.some.injEq] at hw
     simp only [Option.bind_some, hv, ← hw]
     cases c <;> cases want <;> rfl
    ·obtain ⟨v, hv, hr⟩ := h.get (hs _ hc (by simp))
     cases hr
     rename_i vs hl _
     have : vs = [] := by cases vs with | nil => rfl | cons _ _ => simp at hl
     subst this
     rw [Array.getElem?_toList] at hv
     simp only [Option.some.injEq] at hw
     subst hw
     simp only [Option.bind_some, hv]
     rfl
    ·simp at hw
  ·simp at hw

def Quiet (P : Program) (σ : Store) (slots : List DV) (o : Oper) (d : DV) : Prop :=
 ∀ w0 G a w (K : Act → World → Prop) Qr, RelS w0 G ⟨slots, σ⟩ a w →
  (∀ v G' w', StoreRel w0 G' σ w' → Ext G σ w G' σ w' → RelV G' σ w' d v → K (a.put o.dst v) w') → o.wp P a w K Qr

theorem Quiet.step (hT : TOK P T) {σ : Store} {slots : List DV} {o : Oper} {C : Prop} {d : DV} (h : stepQ T σ slots o.op = some (C, d)) (hc : C) : Quiet P σ slots o d := by
 intro w0 G a w K Qr hr hK
 obtain ⟨v, hv, hd⟩ := stepQ_sound w hT hr.2.2 hr.2.1 h hc
 simp only [Oper.wp, hv, Oper.upon]
 exact hK v G w hr.2.2 (Ext.refl _ _ _) hd

theorem EvL_quiet {ops : Array Oper} {o : Oper} {rest : List Oper} {d : DV} (hg : wantedD ops s.slots o = some true) (h : Quiet P s.σ s.slots o d) (k : EvL P ops rest (s.put o.dst d) Q) :
  EvL P ops (o :: rest) s Q := by
 intro w0 G0 σ0 W0 G a w hx hr
 rw [wpList]
 rw [if_pos (wanted_rel hr.2.1 hg)]
 refine .inl (h w0 G a w _ _ hr ?_)
 intro v G' w' hS hE hv
 refine k w0 G0 σ0 W0 G' _ w' (by rw [put_σ]; exact hx.trans hE) ⟨by rw [put_defers]; exact hr.1.ext hE, ?_, by rw [put_σ]; exact hS⟩
 have := RelL_put (hr.2.1.ext hE) hv o.dst
 rw [put_σ]
 exact this

/-! ### functions -/
def Does (P : Program) (f : FuncId) (args : List DV) (σ : Store) (Q : DV → Store → Prop) : Prop :=
 ∀ w0 G (vs : Array Value) w, StoreRel w0 G σ w → RelL G σ w args vs.toList →
  Calls P f vs w fun e w' => ∃ v r σ' G', e = .returned v ∧ Q r σ' ∧ StoreRel w0 G' σ' w' ∧ Ext G σ w G' σ' w' ∧ RelV G' σ' w' r v

theorem Does.mono {f : FuncId} {args : List DV} {σ : Store} {R R' : DV → Store → Prop} (h : Does P f args σ R) (hq : ∀ r σ', R r σ' → R' r σ') : Does P f args σ R' := by
 intro w0 G vs w hS hr
 refine (h w0 G vs w hS hr).mono ?_
 rintro e w' ⟨v, r, σ', G', he, hR, rest⟩
 exact ⟨v, r, σ', G', he, hq _ _ hR, rest⟩

def resD1 (T : TypeId → TI) (s : St) : ResultVar → Option (Prop × DV)
 | .tmp t => some (True, s.slots.getD t .undef)
 | .cell a t => loadD T s.σ t (s.slots.getD a .undef)
def resDs (T : TypeId → TI) (s : St) : List ResultVar → Option (Prop × List DV)
 | [] => some (True, [])
 | r :: rs =>
  match resD1 T s r, resDs T s rs with
  | some (C, d), some (C', ds) => some (C ∧ C', d :: ds)
  | _, _ => none
def resD (T : TypeId → TI) (s : St) (rs : List ResultVar) : Option (Prop × DV) :=
 match resDs T s rs with
 | some (C, [d]) => some (C, d)
 | some (C, ds) => some (C, .tup ds)
 | none => none

def resRun (tmps : Array Value) : ResultVar → Sem Value
 | .tmp t => pure (tmps.getD t Go.undef)
 | .cell p t => do loadVar t (← asAddr (tmps.getD p Go.undef))

theorem resDs_sound (hT : TOK P T) {w0 : World} {G : Gh} {a : Act} {w : World} (hr : RelS w0 G s a w) : ∀ (rs : List ResultVar) (C : Prop) (ds : List DV), resDs T s rs = some (C, ds) → C →
  ∃ vs : List Value, (rs.mapM (resRun a.tmps)).run P w = .ok vs w ∧ RelL G s.σ w ds vs
 | [], C, ds, h, hc => by
  simp only [resDs, Option.some.injEq, Prod.mk.injEq] at h
  obtain ⟨_, rfl⟩ := h
  exact ⟨[], by simp, .nil⟩
 | r :: rs, C, ds, h, hc => by
  unfold resDs at h
  split at h
  ·rename_i C1 d1 C2 ds2 h1 h2
   simp only [Option.some.injEq, Prod.mk.injEq] at h
   obtain ⟨rfl, rfl⟩ := h
   obtain ⟨vs, hv, hrel⟩ := resDs_sound hT hr rs C2 ds2 h2 hc.2
   cases r with
   | tmp t =>
    simp only [resD1, Option.some.injEq, Prod.mk.injEq] at h1
    obtain ⟨_, rfl⟩ := h1
    refine ⟨a.tmps.getD t Go.undef :: vs, ?_, .cons (get_rel w hr.2.1 (.tmp t)) hrel⟩
    simp only [List.mapM_cons, Sem.run_bind, resRun, Sem.run_pure, Result.andThen_ok, hv]
   | cell p t =>
    simp only [resD1] at h1
    obtain ⟨v, hl, hd⟩ := loadD_sound w hT hr.2.2 (get_rel w hr.2.1 (.tmp p)) h1 hc.1
    refine ⟨v :: vs, ?_, .cons hd hrel⟩
    have he : ∃ ad, a.tmps.getD p Go.undef = .pointer (some ad) := by
     simp only [Instr.loadAt, Act.eval] at hl
     cases hq : a.tmps.getD p Go.undef with
     | pointer x =>
      cases x with
      | some ad => exact ⟨ad, rfl⟩
      | none => rw [hq] at hl; simp [Instr.sureAddr] at hl
     | _ => rw [hq] at hl; simp [Instr.sureAddr] at hl
    obtain ⟨ad, he⟩ := he
    simp only [Instr.loadAt, Act.eval, he, Instr.sureAddr, Sem.run_bind, Sem.run_pure, Result.andThen_ok] at hl
    simp only [List.mapM_cons, Sem.run_bind, resRun, he, asAddr, Sem.run_pure, Result.andThen_ok, hl, hv]
  ·simp at h

theorem resD_sound (hT : TOK P T) {w0 : World} {G : Gh} {a : Act} {w : World} (hr : RelS w0 G s a w) {fn : Func} {C : Prop} {d : DV} (h : resD T s fn.results.toList = some (C, d)) (hc : C) :
  ∃ v, (results fn a.tmps).run P w = .ok v w ∧ RelV G s.σ w d v := by
 have run : ∀ vs : List Value, (fn.results.toList.mapM (resRun a.tmps)).run P w = .ok vs w →
   (results fn a.tmps).run P w = .ok (if h : vs.length = 1 then vs[0] else .tuple vs.toArray) w := by
  intro vs hv
  have e : results fn a.tmps = (fn.results.mapM (resRun a.tmps) >>= fun vs => pure (if h : vs.size = 1 then vs[0] else .tuple vs)) := by
   unfold results
   congr 2
  rw [e, Sem.run_bind, Array.mapM_eq_mapM_toList, Sem.run_map, hv]
  simp only [Result.andThen_ok, Sem.run_pure, List.size_toArray, List.getElem_toArray]
 unfold resD at h
 split at h
 ·rename_i C' d' hq
  simp only [Option.some.injEq, Prod.mk.injEq] at h
  obtain ⟨rfl, rfl⟩ := h
  obtain ⟨vs, hv, hrel⟩ := resDs_sound hT hr _ _ _ hq hc
  match vs, hrel.1 with
  | [v], _ =>
   refine ⟨v, ?_, hrel.2 0 _ v rfl rfl⟩
   rw [run [v] hv]
   rfl
 ·rename_i C' ds hn hq
  simp only [Option.some.injEq, Prod.mk.injEq] at h
  obtain ⟨rfl, rfl⟩ := h
  obtain ⟨vs, hv, hrel⟩ := resDs_sound hT hr _ _ _ hq hc
  have hne : vs.length ≠ 1 := by
   rw [hrel.1]
   intro hl
   match ds, hl with
   | [d], _ => exact hn d rfl
  refine ⟨.tuple vs.toArray, ?_, .tup ds vs hrel.1 hrel.2⟩
  rw [run vs hv, dif_neg hne]
 ·simp at h

def RetQ (T : TypeId → TI) (rs : List ResultVar) (R : DV → Store → Prop) : Exit → St → Prop
 | .normal, s | .ret, s => ∃ C d, resD T s rs = some (C, d) ∧ C ∧ R d s.σ
 | _, _ => False

theorem leaves_down (hT : TOK P T) {fn : Func} {R : DV → Store → Prop} {w0 : World} {G G' : Gh} {σ : Store} {w w' : World} {s' : St} {a' : Act} (hr' : RelS w0 G' s' a' w') (hx' : Ext G.up σ w G' s'.σ w')
  (C : Prop) (d : DV) (he : resD T s' fn.results.toList = some (C, d)) (hc : C) (hR : R d s'.σ) :
  LeavesInM Fence.wide 0 P fn a'.tmps (fun e w' => ∃ v r σ' G', e = .returned v ∧ R r σ' ∧ StoreRel w0 G' σ' w' ∧ Ext G σ w G' σ' w' ∧ RelV G' σ' w' r v) a'.defers .returning w' := by
 have go : ∀ (ds : List Deferred) (w1 : World), Dfs G' w1 ds → (∀ k, G'.own k ≠ .dfr 0 → w1.heap[k]? = w'.heap[k]?) → Below w0.heap.size w' w1 → w1.heap.size = w'.heap.size →
   LeavesInM Fence.wide 0 P fn a'.tmps (fun e w' => ∃ v r σ' G', e = .returned v ∧ R r σ' ∧ StoreRel w0 G' σ' w' ∧ Ext G σ w G' σ' w' ∧ RelV G' σ' w' r v) ds .returning w1 := by
  intro ds
  induction ds with
  | nil =>
   intro w1 _ hk hb hsz
   have hch1 : Chg w0 G' G' w' w1 := ⟨fun k h1 h2 => ⟨rfl, hk k (h2 0)⟩, fun k h => ⟨h, fun h => h⟩, rfl, rfl, rfl, hb⟩
   have hr2 : RelS w0 G' s' { a' with defers := [] } w1 := ⟨Dfs.nil, hr'.2.1.chg hch1, hr'.2.2.chg hch1 (by omega)⟩
   obtain ⟨v, hv, hd⟩ := resD_sound hT hr2 he hc
   have hch : Chg w0 G' G'.down w' w1 := chg_down (fun k h1 _ => hk k (h1 0)) hb
   have hch2 : Chg w0 G' G'.down w1 w1 := chg_down (fun _ _ _ => rfl) (Below.refl _ _)
   exact ⟨v, hv, v, d, s'.σ, G'.down, rfl, hR, hr'.2.2.chg hch (by omega), hx'.down hk, hd.chg hch2⟩
  | cons d0 ds ih =>
   intro w1 hD hk hb hsz
   obtain ⟨r, rfl, hown, hheap⟩ := hD.2 d0 (by simp)
   have hr0 : w0.heap.size ≤ r := hr'.2.2.trk r (by rw [hown]; simp) (by rw [hown]; simp)
   have hoth : ∀ k, k ≠ r → (w1.putObj r (.deferred none)).heap[k]? = w1.heap[k]? := fun k hk => World.putObj_heap_other hk
   have hb2 : Below w0.heap.size w1 (w1.putObj r (.deferred none)) := ⟨rfl, rfl, rfl, Nat.le_of_eq World.putObj_size.symm, fun k hk => hoth k (by omega)⟩
   refine ⟨by simp, .inl ⟨r, _, rfl, run_takeDeferred hheap, ih _ ⟨(List.nodup_cons.1 hD.1).2, fun d hd => ?_⟩ (fun k hk2 => (hoth k (fun e => hk2 (e ▸ hown))).trans (hk k hk2)) (hb.trans hb2) (by rw [World.putObj_size, hsz])⟩⟩
   obtain ⟨r2, e2, o2, h2⟩ := hD.2 d (by simp [hd])
   refine ⟨r2, e2, o2, (hoth r2 ?_).trans h2⟩
   rintro rfl
   exact (List.nodup_cons.1 hD.1).1 (e2 ▸ hd)
 exact go _ _ hr'.1 (fun _ _ => rfl) (Below.refl _ _) rfl

theorem Does_body (hT : TOK P T) {f : FuncId} {fn : Func} {c : Code} {args : List DV} {σ : Store} {R : DV → Store → Prop} (hf : P.funcs[f]? = some fn) (hb : fn.body = some c)
  (h : Ev P c ⟨args ++ List.replicate (fn.ntmps - args.length) .undef, σ⟩ (RetQ T fn.results.toList R)) : Does P f args σ R := by
 intro w0 G vs w hS hr
 refine callsIn_wide (n := 0).1 (callsIn_of_wp_marks hf hb trivial (wpIn_wide.2 ?_) rfl)
 have hl : vs.size = args.length := by rw [← hr.1, Array.length_toList]
 refine wp_mono (h w0 G.up σ w G.up { tmps := vs ++ Array.replicate (fn.ntmps - vs.size) Go.undef, defers := [] } w (Ext.refl _ _ _) ⟨Dfs.nil, ?_, hS.chg (chg_up G) (Nat.le_refl _)⟩) ?_
 ·simp only [Array.toList_append, Array.toList_replicate, hl]
  refine (hr.chg (chg_up (w0 := w0) G)).append ⟨by simp, fun i c v hc hv => ?_⟩
  have := List.eq_of_mem_replicate (List.mem_of_getElem? hc)
  subst this
  exact .undef v
 ·rintro e a' w' ⟨s', G', hq, hr', hx'⟩
  have fin := fun C d he hc hR => leaves_down (fn := fn) (R := R) (G := G) (σ := σ) (w := w) hT hr' hx' C d he hc hR
  cases e <;> simp only [RetQ] at hq
  all_goals
   obtain ⟨C, d, he, hc, hR⟩ := hq
   exact fin C d he hc hR

def Le (d d' : DV) : Prop := ∀ G σ w v, RelV G σ w d v → RelV G σ w d' v
def LeL (ds ds' : List DV) : Prop := ∀ G σ w vs, RelL G σ w ds vs → RelL G σ w ds' vs
theorem Le.refl (d : DV) : Le d d := fun _ _ _ _ h => h
theorem Le.sl (xs : List DV) : Le (.slt xs) (.sl xs) := fun _ _ _ _ h => h.sl_of_slt
theorem LeL.refl (ds : List DV) : LeL ds ds := fun _ _ _ _ h => h
theorem LeL.nil : LeL [] [] := LeL.refl _
theorem LeL.cons {d d' : DV} {ds ds' : List DV} (h : Le d d') (hs : LeL ds ds') : LeL (d :: ds) (d' :: ds') := by
 intro G σ w vs hr
 cases vs with
 | nil => have := hr.1; simp at this
 | cons v vs =>
  have h1 : RelL G σ w ds vs := ⟨by simpa using hr.1, fun i c u hc hu => hr.2 (i + 1) c u (by simpa using hc) (by simpa using hu)⟩
  exact .cons (h _ _ _ _ (hr.2 0 d v rfl rfl)) (hs _ _ _ _ h1)
theorem Le.agg {cs cs' : List DV} (h : LeL cs cs') : Le (.agg cs) (.agg cs') := by
 intro G σ w v hr
 cases hr with
 | agg _ vs hl hr => have := h G σ w vs ⟨hl, hr⟩; exact .agg _ _ this.1 this.2
theorem Le.tup {cs cs' : List DV} (h : LeL cs cs') : Le (.tup cs) (.tup cs') := by
 intro G σ w v hr
 cases hr with
 | tup _ vs hl hr => have := h G σ w vs ⟨hl, hr⟩; exact .tup _ _ this.1 this.2
theorem Le.fn {f : Fn} {fs fs' cs cs' : List DV} (hf : LeL fs fs') (h : LeL cs cs') : Le (.fn f fs cs) (.fn f fs' cs') := by
 intro G σ w v hr
 cases hr with
 | fn _ _ _ us vs hl1 hr1 hl hr =>
  have := h G σ w vs ⟨hl, hr⟩
  have k := hf G σ w us ⟨hl1, hr1⟩
  exact .fn _ _ _ _ _ k.1 k.2 this.1 this.2

def calleeD (P : Program) (slots : List DV) (c : Call) : Option (FuncId × List DV) :=
 match c.callee with
 | .value x =>
  match get slots x with
  | .fn (.func f) fs cs => some (f, fs ++ gets slots c.args ++ cs)
  | _ => none
 | _ => none

theorem call_run {σ : Store} {slots : List DV} {G : Gh} {w : World} {a : Act} (hr : RelL G σ w slots a.tmps.toList) {o : Oper} {c : Call} (ho : o.op = .call c) {f : FuncId} {args : List DV}
  (h : calleeD P slots c = some (f, args)) {fn : Func} {body : Code} (hf : P.funcs[f]? = some fn) (hb : fn.body = some body) (hn : fn.name ≠ "runtime.NumGoroutine") :
  ∃ vs : Array Value, (execOp a.eval o).run P w = .ok (.enter f vs) w ∧ RelL G σ w args vs.toList := by
 obtain ⟨callee, cargs, ats⟩ := c
 unfold calleeD at h
 split at h
 ·rename_i x hx
  simp only at hx
  subst hx
  split at h
  ·rename_i g fs cs hg
   simp only [Option.some.injEq, Prod.mk.injEq] at h
   obtain ⟨rfl, rfl⟩ := h
   have hv := get_rel w hr x
   rw [hg] at hv
   generalize hcv : a.eval x = vc at hv
   cases hv with
   | fn _ _ _ us vs h1 h2 h3 h4 =>
    refine ⟨us.toArray ++ cargs.map a.eval ++ vs.toArray, ?_, ?_⟩
    ·simp only [execOp, ho, resolve, hcv, Deferred.ofValue, Sem.run_bind, Sem.run_pure, Result.andThen_ok, invoke, callFunc, run_program, hf, Sem.run_ite]
     simp [hn, hb]
    ·have := (RelL.append ⟨h1, h2⟩ (gets_rel w hr cargs)).append (show RelL G σ w cs vs from ⟨h3, h4⟩)
     simpa using this
  ·simp at h
 ·simp at h

theorem Quiet.call {o : Oper} {c : Call} {slots : List DV} {σ : Store} {f : FuncId} {args args' : List DV} {d : DV} {fn : Func} {body : Code} (ho : o.op = .call c)
  (h : calleeD P slots c = some (f, args)) (hf : P.funcs[f]? = some fn) (hb : fn.body = some body) (hn : fn.name ≠ "runtime.NumGoroutine") (hle : LeL args args')
  (hF : Does P f args' σ (fun r σ' => r = d ∧ σ' = σ)) : Quiet P σ slots o d := by
 intro w0 G a w K Qr hr hK
 obtain ⟨vs, he, hrel⟩ := call_run hr.2.1 ho h hf hb hn
 simp only [Oper.wp, he, Oper.upon]
 refine (hF w0 G vs w hr.2.2 (hle _ _ _ _ hrel)).mono ?_
 rintro e w' ⟨v, r, σ', G', rfl, ⟨rfl, rfl⟩, hS, hE, hv⟩
 exact hK v G' w' hS hE hv
end
end Go.Val
end
