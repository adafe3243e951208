/- Maps: made, looked at, written; keys are numbers, texts, bools, or a few of these side by side. Maps that are only read from now on; going through a map, in whatever order. The builtin copy onto a row of one's own (elements of one cell). -/
import Derived.Test.YtlfnmgmbmgacgaaVM6
import Derived.MapKept
import Derived.Maps.RangeRun
import Derived.Laws.CopyRow
section
namespace Go.Val
open Go.RowKit
set_option linter.unusedSimpArgs false
set_option linter.unusedVariables false

def eqk1 : DV → DV → Bool
 | .int k a, .int k' b => k == k' && a == b
 | .bool a, .bool b => a == b
 | .str a, .str b => a == b
 | _, _ => false
def eqkL : List DV → List DV → Bool
 | [], [] => true
 | x :: xs, y :: ys => eqk1 x y && eqkL xs ys
 | _, _ => false
def eqk : DV → DV → Bool
 | .agg cs, .agg ds => eqkL cs ds
 | x, y => eqk1 x y
def DV.flat1 : DV → Bool
 | .int _ _ | .bool _ | .str _ => true
 | _ => false
def DV.isKey : DV → Bool
 | .agg cs => cs.all DV.flat1
 | d => d.flat1
def toVal1 : DV → Value
 | .int k n => .int k n
 | .bool b => .bool b
 | .str s => .string ⟨s.toArray⟩
 | _ => .nilFunc
def toVal : DV → Value
 | .agg cs => .agg (cs.map toVal1).toArray
 | d => toVal1 d
theorem RelV.flat1 {G : Gh} {σ : Store} {w : World} {d : DV} {v : Value} (h : RelV G σ w d v) (hk : d.flat1 = true) : v = toVal1 d := by
 cases h <;> first | rfl | simp [DV.flat1] at hk
theorem RelV.key {G : Gh} {σ : Store} {w : World} {d : DV} {v : Value} (h : RelV G σ w d v) (hk : d.isKey = true) : v = toVal d := by
 cases h with
 | agg cs vs hl h =>
  simp only [toVal]
  congr 1
  congr 1
  apply List.ext_getElem?
  intro i
  rw [List.getElem?_map]
  cases hc : cs[i]? with
  | none => rw [List.getElem?_eq_none (by rw [hl]; exact List.getElem?_eq_none_iff.1 hc)]; rfl
  | some c =>
   have hi : i < vs.length := by rw [hl]; exact (List.getElem?_eq_some_iff.1 hc).1
   rw [List.getElem?_eq_getElem hi]
   simp only [Option.map_some]
   rw [(h i c _ hc (List.getElem?_eq_getElem hi)).flat1 (List.all_eq_true.1 hk c (List.mem_of_getElem? hc))]
 | _ => first | rfl | simp [DV.isKey, DV.flat1] at hk

def mget : List (DV × DV) → DV → Option DV
 | [], _ => none
 | p :: M, k => if eqk k p.1 then some p.2 else mget M k
def mput : List (DV × DV) → DV → DV → List (DV × DV)
 | [], k, v => [(k, v)]
 | p :: M, k, v => if eqk k p.1 then (p.1, v) :: M else p :: mput M k v
def mat : List (DV × DV) → DV → Option Nat
 | [], _ => none
 | p :: M, k => if eqk k p.1 then some 0 else (mat M k).map (· + 1)
def KeyTy (T : TypeId → TI) (kt : TypeId) (d : DV) : Prop :=
 match (T kt).ty, d with
 | .int q, .int q' _ => q = q'
 | .str, .str _ => True
 | .bool, .bool _ => True
 | _, _ => False
def KeysTy (T : TypeId → TI) (kt : TypeId) (M : List (DV × DV)) : Prop := ∀ p ∈ M, KeyTy T kt p.1

def keyD : Ty → Option TypeDesc
 | .int k => some (.int k)
 | .str => some .string
 | .bool => some .bool
 | _ => none
theorem KeyTy.isKey {T : TypeId → TI} {kt : TypeId} {d : DV} (h : KeyTy T kt d) : d.isKey = true := by
 unfold KeyTy at h
 split at h <;> first | rfl | exact h.elim
section
variable {P : Program} {T : TypeId → TI} {w0 w w' : World} {G : Gh} {σ : Store}
theorem TOK.undP_map (hT : TOK P T) {t k e : TypeId} (h : (T t).ty = .map k e) : P.underlying t = some (.map k e) := by
 obtain ⟨d, h1, h2⟩ := hT.undP h (by simp)
 rw [h1, show d = .map k e from h2]
theorem StoreRel.map_setG (h : StoreRel w0 G σ w) {b : Nat} {M : List (DV × DV)} (hb : σ.maps[b]? = some (some M)) (hw : Wr (G.mapB b) w w') {M' : List (DV × DV)}
  (hr : Ext G σ w G { σ with maps := σ.maps.set b (some M') } w' → PlainRel G { σ with maps := σ.maps.set b (some M') } w' b M' ∨ IterRel G { σ with maps := σ.maps.set b (some M') } w' b M') :
  StoreRel w0 G { σ with maps := σ.maps.set b (some M') } w' ∧ Ext G σ w G { σ with maps := σ.maps.set b (some M') } w' := by
 obtain ⟨ho, _⟩ := h.maps b M hb
 have hne : ∀ k ω, G.own k = ω → ω ≠ .map b → w'.heap[k]? = w.heap[k]? := fun k ω hk hω => hw.other k (fun e => by subst e; rw [ho] at hk; exact hω hk.symm)
 have hx : Ext G σ w G { σ with maps := σ.maps.set b (some M') } w' :=
  ⟨fun k hk => ⟨hk, hne k _ hk (by simp)⟩, Nat.le_refl _, Nat.le_refl _, by simp, fun _ R _ h => ⟨R, h, rfl, Nat.le_refl _, fun _ => rfl⟩, fun _ _ => rfl, fun _ _ => rfl, fun k hk => ⟨hk, hne k _ hk (by simp)⟩⟩
 refine ⟨⟨?_, fun k hk => by rw [hw.size]; exact h.lt k hk, h.trk, fun id R hR => (h.rows id R hR).keep hx rfl (fun k hk => ⟨hk, hne k _ hk (by simp)⟩), fun id B hB => (h.boxes id B hB).keep hx rfl (fun k hk => ⟨hk, hne k _ hk (by simp)⟩), fun id M2 hM => ?_⟩, hx⟩
 ·have ht := h.trk (G.mapB b) (by rw [ho]; simp) (by rw [ho]; simp)
  exact h.below.trans ⟨hw.os, hw.tape, hw.output, by rw [hw.size]; exact Nat.le_refl _, fun k hk => hw.other k (by omega)⟩
 ·by_cases e : id = b
  ·subst e
   rw [List.getElem?_set_self (List.getElem?_eq_some_iff.1 hb).1] at hM
   injection hM with hM; injection hM with hM; subst hM
   exact ⟨ho, hr hx⟩
  ·rw [List.getElem?_set_ne (Ne.symm e)] at hM
   exact (h.maps id M2 hM).keep hx rfl (fun k hk => ⟨hk, hne k _ hk (by simp; exact e)⟩)
theorem StoreRel.map_set (h : StoreRel w0 G σ w) {b : Nat} {M : List (DV × DV)} (hb : σ.maps[b]? = some (some M)) (hw : Wr (G.mapB b) w w') {M' : List (DV × DV)}
  (hr : Ext G σ w G { σ with maps := σ.maps.set b (some M') } w' → PlainRel G { σ with maps := σ.maps.set b (some M') } w' b M') :
  StoreRel w0 G { σ with maps := σ.maps.set b (some M') } w' ∧ Ext G σ w G { σ with maps := σ.maps.set b (some M') } w' := h.map_setG hb hw (fun hE => .inl (hr hE))
theorem setObj_wr {g : Nat} {o o' : Obj} (h : w.heap[g]? = some o) : Wr g w { w with heap := w.heap.setIfInBounds g o' } ∧ ({ w with heap := w.heap.setIfInBounds g o' } : World).heap[g]? = some o' := by
 have hg := (Array.getElem?_eq_some_iff.1 h).1
 refine ⟨⟨rfl, rfl, rfl, by simp, fun k hk => ?_⟩, ?_⟩
 ·simp only [Array.getElem?_setIfInBounds]
  rw [if_neg (Ne.symm hk)]
 ·simp only [Array.getElem?_setIfInBounds]
  rw [if_pos trivial, if_pos hg]

def lookR (v : Option DV) (z : DV) (c : Bool) : DV :=
 match v, c with
 | some v, true => .tup [v, .bool true]
 | some v, false => v
 | none, true => .tup [z, .bool false]
 | none, false => z
def mapOf (σ : Store) : DV → Option (List (DV × DV))
 | .mp id => match σ.maps[id]? with | some (some M) => if isIter M then none else some M | _ => none
 | .cm ks vs => if ks.length = vs.length then some (ks.zip vs) else none
 | _ => none
end
section
variable {P : Program} {T : TypeId → TI} {dsts : List (Option Tmp)} {rest : List Oper} {slots slots' : List DV} {σ σ' : Store} {Q : Exit → St → Prop} {ty : TypeId} {pos : String} {af : Array Edge} {g : Option (Nat × Bool)}
end
end Go.Val
end

section
namespace Go.Val
open Go.RowKit
set_option linter.unusedSimpArgs false
set_option linter.unusedVariables false

section
variable {P : Program} {T : TypeId → TI} {s : St} {w0 : World} {G : Gh} {σ : Store} {w w' : World}
def mfz1 (id : Nat) (M : List (DV × DV)) : DV → DV
 | .mp i => if i = id then .cm (M.map (·.1)) (M.map (·.2)) else .mp i
 | d => d
theorem Effect.range (hT : TOK P T) {s : St} {o : Oper} {t kt et : TypeId} {x : Operand} (ho : o.op = .range t x) (ht : (T t).ty = .map kt et) {ks vs : List DV} (hx : get s.slots x = .cm ks vs) :
  Effect P s o (one (.it s.σ.maps.length) { s.σ with maps := s.σ.maps ++ [some (iterL ks vs [])] }) := by
 intro w0 G a w hr
 have hv := get_rel w hr.2.1 x
 rw [hx] at hv
 obtain ⟨k, es, clock, hv1, him, hh, h1, h2, hk, hvv, hb, hn⟩ : ∃ k es clock, a.eval x = .map (some k) ∧ G.own k = .imm ∧ w.heap[k]? = some (.map es clock) ∧ es.size = ks.length ∧ es.size = vs.length ∧
   (∀ (i : Nat) d e, ks[i]? = some d → es[i]? = some e → RelV G s.σ w d e.key) ∧ (∀ (i : Nat) d e, vs[i]? = some d → es[i]? = some e → RelV G s.σ w d e.val) ∧ (∀ (i : Nat) e, es[i]? = some e → e.born < clock) ∧ (∀ (i j : Nat) e f, es[i]? = some e → es[j]? = some f → e.born = f.born → i = j) := by
  generalize a.eval x = vx at hv
  cases hv with
  | cm _ _ k clock es him hh h1 h2 hk hv hb hn => exact ⟨k, es, clock, rfl, him, hh, h1, h2, hk, hv, hb, hn⟩
 obtain ⟨g1, x1⟩ := hr.2.2.new (.mapIter (some k) clock #[] clock) (.map s.σ.maps.length) (by simp)
 let G' : Gh := { G with own := updN G.own w.heap.size (.map s.σ.maps.length), mapB := updN G.mapB s.σ.maps.length w.heap.size }
 have x2 : Ext { G with own := updN G.own w.heap.size (.map s.σ.maps.length) } s.σ (w.alloc (.mapIter (some k) clock #[] clock)) G' { s.σ with maps := s.σ.maps ++ [some (iterL ks vs [])] } (w.alloc (.mapIter (some k) clock #[] clock)) :=
  ⟨fun _ h => ⟨h, rfl⟩, Nat.le_refl _, Nat.le_refl _, by simp, fun _ R _ h => ⟨R, h, rfl, Nat.le_refl _, fun _ => rfl⟩, fun _ _ => rfl, fun id hid => by simp only [G']; rw [updN_ne _ _ (by omega)], fun _ h => ⟨h, rfl⟩⟩
 have hE := x1.trans x2
 have hcm := (RelV.cm (G := G) (σ := s.σ) (w := w) ks vs k clock es him hh h1 h2 hk hvv hb hn).ext hE
 refine ⟨.value (.pointer (some ⟨w.heap.size, 0, none⟩)), _, .pointer (some ⟨w.heap.size, 0, none⟩), .it s.σ.maps.length, _, G', ?_, .inl rfl, ⟨rfl, rfl⟩, ⟨g1.below, g1.lt, g1.trk, fun id R hR => (g1.rows id R hR).keep x2 rfl (fun _ h => ⟨h, rfl⟩), fun id B hB => (g1.boxes id B hB).keep x2 rfl (fun _ h => ⟨h, rfl⟩), fun id M hM => ?_⟩, hE, ?_⟩
 ·simp only [execOp, ho, hv1]
  simp [run_range_map w t kt et k es clock (hT.undP_map ht) hh]
 ·rcases Nat.lt_trichotomy id s.σ.maps.length with hlt | rfl | hgt
  ·simp only at hM
   rw [List.getElem?_append_left hlt] at hM
   exact (g1.maps id M hM).keep x2 (by simp only [G']; rw [updN_ne _ _ (by omega)]) (fun _ h => ⟨h, rfl⟩)
  ·simp at hM
   subst hM
   refine ⟨by simp [G'], .inr ⟨ks, vs, [], k, es, clock, clock, clock, #[], rfl, hcm, ?_, ?_, hb, Nat.le_refl _, rfl, by simp, rfl⟩⟩
   ·rw [(hE.imm k him).2]; exact hh
   ·simp only [G', updN_same]
    show (w.heap.push _)[w.heap.size]? = _
    simp
  ·simp only at hM
   rw [List.getElem?_eq_none (by simp; omega)] at hM
   simp at hM
 ·have : RelV G' { s.σ with maps := s.σ.maps ++ [some (iterL ks vs [])] } (w.alloc (.mapIter (some k) clock #[] clock)) (.it s.σ.maps.length) (.pointer (some ⟨G'.mapB s.σ.maps.length, 0, none⟩)) := .it _ (by simp)
  simpa [G'] using this
def nextR2 (ks vs : List DV) (is : List Nat) (id : Nat) (σ : Store) (r : DV) (σ' : Store) : Prop :=
 (∃ i, i < ks.length ∧ i ∉ is ∧ r = .tup [.bool true, ks.getD i .undef, vs.getD i .undef] ∧ σ' = { σ with maps := σ.maps.set id (some (iterL ks vs (is ++ [i]))) }) ∨ ((∀ i, i < ks.length → i ∈ is) ∧ r = .tup [.bool false] ∧ σ' = σ)
theorem tup3 {d1 d2 d3 : DV} {v1 v2 v3 : Value} (h1 : RelV G σ w d1 v1) (h2 : RelV G σ w d2 v2) (h3 : RelV G σ w d3 v3) : RelV G σ w (.tup [d1, d2, d3]) (.tuple #[v1, v2, v3]) :=
 .tup _ [v1, v2, v3] rfl (by
  intro j d u e1 e2
  match j with
  | 0 => simp at e1 e2; subst e1; subst e2; exact h1
  | 1 => simp at e1 e2; subst e1; subst e2; exact h2
  | 2 => simp at e1 e2; subst e1; subst e2; exact h3
  | j + 3 => simp at e1)
theorem iter_inj {ks ks' vs vs' : List DV} {is is' : List Nat} (h1 : iterL ks vs is = iterL ks' vs' is') : ks = ks' ∧ vs = vs' ∧ is = is' := by
 unfold iterL at h1
 injection h1 with e1 e2
 injection e1 with e3 e4
 injection e4 with e5 e6
 refine ⟨e5, e6, ?_⟩
 have : ∀ (a b : List Nat), (a.map fun (i : Nat) => ((.int .i64 (i : Int) : DV), DV.nilfn)) = (b.map fun (i : Nat) => ((.int .i64 (i : Int) : DV), DV.nilfn)) → a = b := by
  intro a
  induction a with
  | nil => intro b h; cases b with
   | nil => rfl
   | cons _ _ => simp at h
  | cons x a ih => intro b h; cases b with
   | nil => simp at h
   | cons y b =>
    simp only [List.map_cons, List.cons.injEq, Prod.mk.injEq, DV.int.injEq, true_and, and_true] at h
    rw [ih b h.2, show x = y by omega]
 exact this _ _ e2
theorem Effect.next {s : St} {o : Oper} {x : Operand} (ho : o.op = .next x false) {id : Nat} (hx : get s.slots x = .it id) {ks vs : List DV} {is : List Nat} (hM : s.σ.maps[id]? = some (some (iterL ks vs is))) : Effect P s o (nextR2 ks vs is id s.σ) := by
 intro w0 G a w hr
 have hv : a.eval x = .pointer (some ⟨G.mapB id, 0, none⟩) := by
  have := get_rel w hr.2.1 x
  rw [hx] at this
  generalize a.eval x = vx at this
  cases this; rfl
 obtain ⟨hown, hp | hi⟩ := hr.2.2.maps id _ hM
 ·exact absurd hp.1 (by simp [iterL, isIter])
 obtain ⟨ks', vs', is', k, es, clock, since, last, seen, h1, h2, h3, h4, h5, h6, h7, h8, h9⟩ := hi
 obtain ⟨rfl, rfl, rfl⟩ := iter_inj h1
 obtain ⟨him, hz1, hz2, hk, hvv, hb, hn⟩ : G.own k = .imm ∧ es.size = ks.length ∧ es.size = vs.length ∧ (∀ (i : Nat) d e, ks[i]? = some d → es[i]? = some e → RelV G s.σ w d e.key) ∧ (∀ (i : Nat) d e, vs[i]? = some d → es[i]? = some e → RelV G s.σ w d e.val) ∧
   (∀ (i : Nat) e, es[i]? = some e → e.born < clock) ∧ (∀ (i j : Nat) e f, es[i]? = some e → es[j]? = some f → e.born = f.born → i = j) := by
  cases h2 with
  | cm _ _ _ clock' es' him hh a1 a2 hk hv hb hn =>
   rw [h3] at hh
   injection hh with hh
   injection hh with e1 e2
   subst e1; subst e2
   exact ⟨him, a1, a2, hk, hv, hb, hn⟩
 have hold : ∀ x ∈ es.toList, x.born < since := fun x hx => by
  obtain ⟨i, hi, rfl⟩ := List.getElem_of_mem hx
  exact h5 i _ (by rw [Array.getElem?_eq_getElem (by simpa using hi)]; simp)
 have hmem : ∀ (i : Nat) e, es[i]? = some e → (seen.contains e.born = true ↔ i ∈ is) := by
  intro i e he
  rw [Array.contains_iff_mem, ← Array.mem_toList_iff, h7, List.mem_map]
  constructor
  ·rintro ⟨j, hj, hje⟩
   have hjl := h8 j hj
   rw [Array.getElem?_eq_getElem hjl] at hje
   simp only [Option.map_some, Option.getD_some] at hje
   have := hn j i _ e (Array.getElem?_eq_getElem hjl) he hje
   rw [← this]; exact hj
  ·intro hi
   exact ⟨i, hi, by rw [he]; rfl⟩
 rcases run_next_at (P := P) w o.type (G.mapB id) k since last seen es clock h4 h3 hold h6 with ⟨q1, q2⟩ | ⟨e, q1, w1, q2, q3⟩
 ·refine ⟨.value (.tuple #[.bool false]), w, .tuple #[.bool false], .tup [.bool false], s.σ, G, ?_, .inl rfl, .inr ⟨fun i hi => ?_, rfl, rfl⟩, hr.2.2, Ext.refl _ _ _, ?_⟩
  ·simp only [execOp, ho, hv]
   simp [q2]
  ·have he : es[i]? = some es[i] := Array.getElem?_eq_getElem (by omega)
   rw [← hmem i _ he]
   have hz := Array.eq_empty_of_size_eq_zero q1
   unfold leftOf at hz
   rw [Array.filter_eq_empty_iff] at hz
   have := hz es[i] (Array.getElem_mem (by omega))
   simpa using this
  ·exact .tup _ [.bool false] rfl (by
    intro j d u e1 e2
    cases j with
    | zero => simp at e1 e2; subst e1; subst e2; exact .bool false
    | succ j => simp at e1)
 ·unfold leftOf at q1
  simp only [Array.toList_filter, List.mem_filter, Array.mem_toList_iff, Bool.not_eq_true'] at q1
  obtain ⟨qm, qs⟩ := q1
  obtain ⟨i, hi, rfl⟩ := Array.getElem_of_mem qm
  have he : es[i]? = some es[i] := Array.getElem?_eq_getElem hi
  have hni : i ∉ is := fun h => by rw [(hmem i _ he).2 h] at qs; cases qs
  have hd1 : StoreRel w0 G s.σ w1 ∧ Ext G s.σ w G s.σ w1 := by
   rcases q2 with rfl | rfl
   ·exact ⟨hr.2.2, Ext.refl _ _ _⟩
   ·exact hr.2.2.drew
  have h4' : w1.heap[G.mapB id]? = some (.mapIter (some k) since seen last) := by rcases q2 with rfl | rfl <;> exact h4
  have h3' : w1.heap[k]? = some (.map es clock) := by rcases q2 with rfl | rfl <;> exact h3
  obtain ⟨hwr, hh'⟩ := setObj_wr (o' := .mapIter (some k) since (seen.push es[i].born) clock) h4'
  have hks : ks.getD i .undef = ks[i]'(by omega) := by rw [List.getD_eq_getElem?_getD, List.getElem?_eq_getElem (by omega)]; rfl
  have hvs : vs.getD i .undef = vs[i]'(by omega) := by rw [List.getD_eq_getElem?_getD, List.getElem?_eq_getElem (by omega)]; rfl
  obtain ⟨k1, k2⟩ := hd1.1.map_setG hM hwr (M' := iterL ks vs (is ++ [i])) (fun hE => .inr ⟨ks, vs, is ++ [i], k, es, clock, since, clock, seen.push es[i].born, rfl, (h2.ext hd1.2).ext hE, by rw [hwr.other k (fun e => by rw [e, h4'] at h3'; cases h3')]; exact h3', hh', h5, by
    rw [← h9]; exact h6, by simp [h7, he], fun j hj => by
    rcases List.mem_append.1 hj with h | h
    ·exact h8 j h
    ·rw [List.mem_singleton.1 h]; exact hi, rfl⟩)
  refine ⟨.value (.tuple #[.bool true, es[i].key, es[i].val]), _, .tuple #[.bool true, es[i].key, es[i].val], .tup [.bool true, ks.getD i .undef, vs.getD i .undef], _, G, ?_, .inl rfl, .inl ⟨i, by omega, hni, rfl, rfl⟩, k1, hd1.2.trans k2, ?_⟩
  ·simp only [execOp, ho, hv]
   simp [q3]
   rfl
  ·have hE2 := hd1.2.trans k2
   exact tup3 (.bool true) (by rw [hks]; exact (hk i _ _ (List.getElem?_eq_getElem _) he).ext hE2) (by rw [hvs]; exact (hvv i _ _ (List.getElem?_eq_getElem _) he).ext hE2)
end
def RoundM (s : List Nat → List DV) (st : List Nat → Store) (n : Nat) (is : List Nat) (Q : Exit → St → Prop) : Exit → St → Prop
 | .normal, x => ∃ i, i < n ∧ i ∉ is ∧ ((LeL x.slots (s (is ++ [i])) ∧ x.σ = st (is ++ [i])) ∨ Leaves (st is) x (s (is ++ [i])) (st (is ++ [i])))
 | e, x => Q e x
section
variable {P : Program} {T : TypeId → TI} {dsts : List (Option Tmp)} {rest : List Oper} {slots slots' : List DV} {σ σ' : Store} {Q : Exit → St → Prop} {ty : TypeId} {pos : String} {af : Array Edge}
end
section
variable {P : Program} {E : Store → Prop} {K : List DV → Store → Prop} {dsts : List (Option Tmp)} {l : List Oper} {f : List Bool} {s s' : List DV} {σ : Store} {c : Call} {dst : Option Tmp} {ty : TypeId} {pos : String} {af : Array Edge} {g : Option (Nat × Bool)}
theorem D_off (k : DrD P E dsts l f.tail s' σ K) (hon : onD dsts s g = some false := by simp only [go_sem] <;> fail) (hf : f.headD false = false := by rfl)
  (hs : putS s dst (.tup []) = s' := by simp only [putS, List.set_cons_succ, List.set_cons_zero]; exact rfl)
  (hE : E σ := by first | exact ⟨rfl, rfl⟩ | exact trivial | exact rfl | exact EP_app _ _ _ | exact EP_self _ | exact EP_one _ _) : DrD P E dsts (⟨dst, .call c, ty, pos, af, g⟩ :: l) f s σ K := by
 intro ops ho
 exact ⟨hE, .inl ⟨onD_wanted ho hon, hf, by rw [putS_eq, hs]; exact k ops ho⟩⟩
end
end Go.Val
end

section
namespace Go.Val
open Go.RowKit
set_option linter.unusedSimpArgs false
set_option linter.unusedVariables false
section
variable {P : Program} {T : TypeId → TI} {s : St}
end
section
variable {P : Program} {T : TypeId → TI} {dsts : List (Option Tmp)} {rest : List Oper} {slots slots' : List DV} {σ σ' : Store} {Q : Exit → St → Prop} {ty : TypeId} {pos : String} {af : Array Edge}
end
end Go.Val
end
