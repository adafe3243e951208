/- Maps: made, looked at, written; keys are numbers, texts, bools, or a few of these side by side. Maps that are only read from now on; going through a map, in whatever order. The builtin copy onto a row of one's own (elements of one cell). -/
import Derived.Test.YtgjmpefhjdgkoaaVM6
import Derived.MapKept
import Derived.Maps.RangeRun
import Derived.Laws.CopyRow
section
namespace Go.Val
open Go.RowKit
set_option linter.unusedSimpArgs false
set_option linter.unusedVariables false

def eqk1 : DV → DV → Bool
 | .int k a, .int k' b => k == k' && a == b
 | .bool a, .bool b => a == b
 | .str a, .str b => a == b
 | _, _ => false
def eqkL : List DV → List DV → Bool
 | [], [] => true
 | x :: xs, y :: ys => eqk1 x y && eqkL xs ys
 | _, _ => false
def eqk : DV → DV → Bool
 | .agg cs, .agg ds => eqkL cs ds
 | x, y => eqk1 x y
def DV.flat1 : DV → Bool
 | .int _ _ | .bool _ | .str _ => true
 | _ => false
def DV.isKey : DV → Bool
 | .agg cs => cs.all DV.flat1
 | d => d.flat1
theorem eqk1_iff {x y : DV} (hx : x.flat1 = true) : eqk1 x y = true ↔ x = y := by
 cases x <;> cases y <;> simp_all [eqk1, DV.flat1]
theorem eqkL_iff : ∀ {xs ys : List DV}, xs.all DV.flat1 = true → (eqkL xs ys = true ↔ xs = ys)
 | [], [], _ => by simp [eqkL]
 | [], _ :: _, _ => by simp [eqkL]
 | _ :: _, [], _ => by simp [eqkL]
 | x :: xs, y :: ys, h => by
  rw [List.all_cons, Bool.and_eq_true] at h
  simp only [eqkL, Bool.and_eq_true, eqk1_iff h.1, eqkL_iff h.2, List.cons.injEq]
theorem eqk_iff {x y : DV} (hx : x.isKey = true) : eqk x y = true ↔ x = y := by
 cases x with
 | agg cs =>
  cases y with
  | agg ds => simp only [eqk, DV.agg.injEq]; exact eqkL_iff hx
  | _ => simp [eqk, eqk1]
 | _ => cases y <;> simp_all [eqk, eqk1, DV.isKey, DV.flat1]
def toVal1 : DV → Value
 | .int k n => .int k n
 | .bool b => .bool b
 | .str s => .string ⟨s.toArray⟩
 | _ => .nilFunc
def toVal : DV → Value
 | .agg cs => .agg (cs.map toVal1).toArray
 | d => toVal1 d
theorem RelV.flat1 {G : Gh} {σ : Store} {w : World} {d : DV} {v : Value} (h : RelV G σ w d v) (hk : d.flat1 = true) : v = toVal1 d := by
 cases h <;> first | rfl | simp [DV.flat1] at hk
theorem RelV.key {G : Gh} {σ : Store} {w : World} {d : DV} {v : Value} (h : RelV G σ w d v) (hk : d.isKey = true) : v = toVal d := by
 cases h with
 | agg cs vs hl h =>
  simp only [toVal]
  congr 1
  congr 1
  apply List.ext_getElem?
  intro i
  rw [List.getElem?_map]
  cases hc : cs[i]? with
  | none => rw [List.getElem?_eq_none (by rw [hl]; exact List.getElem?_eq_none_iff.1 hc)]; rfl
  | some c =>
   have hi : i < vs.length := by rw [hl]; exact (List.getElem?_eq_some_iff.1 hc).1
   rw [List.getElem?_eq_getElem hi]
   simp only [Option.map_some]
   rw [(h i c _ hc (List.getElem?_eq_getElem hi)).flat1 (List.all_eq_true.1 hk c (List.mem_of_getElem? hc))]
 | _ => first | rfl | simp [DV.isKey, DV.flat1] at hk

def mget : List (DV × DV) → DV → Option DV
 | [], _ => none
 | p :: M, k => if eqk k p.1 then some p.2 else mget M k
def mput : List (DV × DV) → DV → DV → List (DV × DV)
 | [], k, v => [(k, v)]
 | p :: M, k, v => if eqk k p.1 then (p.1, v) :: M else p :: mput M k v
def mat : List (DV × DV) → DV → Option Nat
 | [], _ => none
 | p :: M, k => if eqk k p.1 then some 0 else (mat M k).map (· + 1)
theorem mget_at : ∀ (M : List (DV × DV)) (k : DV), mget M k = (mat M k).bind fun i => (M[i]?).map (·.2)
 | [], _ => rfl
 | p :: M, k => by
  unfold mget mat
  split
  ·rfl
  ·rw [mget_at M k]
   cases mat M k with
   | none => rfl
   | some i => rfl
theorem mput_at : ∀ (M : List (DV × DV)) (k v : DV), mput M k v = match mat M k with | some i => M.modify i fun p => (p.1, v) | none => M ++ [(k, v)]
 | [], _, _ => rfl
 | p :: M, k, v => by
  unfold mput mat
  split
  ·rfl
  ·rw [mput_at M k v]
   cases mat M k with
   | none => rfl
   | some i => rfl
theorem mat_lt : ∀ {M : List (DV × DV)} {k : DV} {i : Nat}, mat M k = some i → ∃ p, M[i]? = some p ∧ eqk k p.1 = true
 | [], _, _, h => by cases h
 | p :: M, k, i, h => by
  unfold mat at h
  split at h
  ·injection h with h; subst h; exact ⟨p, rfl, by assumption⟩
  ·cases hm : mat M k with
   | none => rw [hm] at h; cases h
   | some j =>
    rw [hm] at h
    injection h with h
    subst h
    obtain ⟨q, h1, h2⟩ := mat_lt hm
    exact ⟨q, h1, h2⟩

def KeyTy (T : TypeId → TI) (kt : TypeId) (d : DV) : Prop :=
 match (T kt).ty, d with
 | .int q, .int q' _ => q = q'
 | .str, .str _ => True
 | .bool, .bool _ => True
 | _, _ => False
def KeysTy (T : TypeId → TI) (kt : TypeId) (M : List (DV × DV)) : Prop := ∀ p ∈ M, KeyTy T kt p.1

def keyD : Ty → Option TypeDesc
 | .int k => some (.int k)
 | .str => some .string
 | .bool => some .bool
 | _ => none
theorem KeyTy.isKey {T : TypeId → TI} {kt : TypeId} {d : DV} (h : KeyTy T kt d) : d.isKey = true := by
 unfold KeyTy at h
 split at h <;> first | rfl | exact h.elim
theorem ba_beq (s t : List UInt8) : ((⟨s.toArray⟩ : ByteArray) == ⟨t.toArray⟩) = (s == t) := by
 rw [Bool.eq_iff_iff, MapKept.bytes_beq, beq_iff_eq]
 constructor
 ·intro e; injection e with e; simpa using e
 ·rintro rfl; rfl
theorem KeyTy.desc {P : Program} {T : TypeId → TI} (hT : TOK P T) {kt : TypeId} {d : DV} (h : KeyTy T kt d) : ∃ y, P.underlying kt = some y ∧ MapKept.IsKey y (toVal d) ∧ ∀ e, KeyTy T kt e → Instr.sameNow y (toVal d) (toVal e) = some (eqk d e) := by
 unfold KeyTy at h
 split at h
 ·rename_i q q' n hq
  refine ⟨.int q, hT.undP_int hq, ?_, fun e he => ?_⟩
  ·simp [MapKept.IsKey, toVal, toVal1, h]
  ·unfold KeyTy at he
   rw [hq] at he
   cases e <;> simp only at he
   subst he; subst h
   simp [toVal, toVal1, Instr.sameNow, eqk, eqk1]
 ·rename_i s hq
  refine ⟨.string, hT.undP_str hq, ?_, fun e he => ?_⟩
  ·simp [MapKept.IsKey, toVal, toVal1]
  ·unfold KeyTy at he
   rw [hq] at he
   cases e <;> simp only at he
   simp only [toVal, toVal1, Instr.sameNow, eqk, eqk1, ba_beq]
 ·rename_i s hq
  refine ⟨.bool, hT.undP_bool hq, ?_, fun e he => ?_⟩
  ·simp [MapKept.IsKey, toVal, toVal1]
  ·unfold KeyTy at he
   rw [hq] at he
   cases e <;> simp only at he
   simp [toVal, toVal1, Instr.sameNow, eqk, eqk1]
 ·exact h.elim

theorem findNow_at {T : TypeId → TI} {kt : TypeId} {y : TypeDesc} {k : DV} (hk : ∀ e, KeyTy T kt e → Instr.sameNow y (toVal k) (toVal e) = some (eqk k e)) : ∀ (M : List (DV × DV)) (es : List MapEntry) (n : Nat), KeysTy T kt M → es.length = M.length →
  (∀ (i : Nat) e m, es[i]? = some e → M[i]? = some m → e.key = toVal m.1) → Instr.findNow y (toVal k) es n = some ((mat M k).bind fun i => (es[i]?).map fun e => (n + i, e.val))
 | [], [], n, _, _, _ => rfl
 | [], _ :: _, n, _, h, _ => by simp at h
 | _ :: _, [], n, _, h, _ => by simp at h
 | m :: M, e :: es, n, hM, hl, he => by
  have h0 : e.key = toVal m.1 := he 0 e m rfl rfl
  unfold Instr.findNow mat
  rw [h0, hk m.1 (hM m (by simp))]
  cases hq : eqk k m.1 with
  | true => simp
  | false =>
   have ih := findNow_at hk M es (n + 1) (fun p hp => hM p (by simp [hp])) (by simpa using hl) (fun i e' m' h1 h2 => he (i + 1) e' m' (by simpa using h1) (by simpa using h2))
   simp only [Bool.false_eq_true, if_false]
   rw [ih]
   cases mat M k with
   | none => rfl
   | some i =>
    simp only [Option.map_some, Option.bind_some, List.getElem?_cons_succ]
    rw [show n + 1 + i = n + (i + 1) by omega]

section
variable {P : Program} {T : TypeId → TI} {w0 w w' : World} {G : Gh} {σ : Store}
theorem TOK.undP_map (hT : TOK P T) {t k e : TypeId} (h : (T t).ty = .map k e) : P.underlying t = some (.map k e) := by
 obtain ⟨d, h1, h2⟩ := hT.undP h (by simp)
 rw [h1, show d = .map k e from h2]
theorem StoreRel.newMap (h : StoreRel w0 G σ w) :
  ∃ G', StoreRel w0 G' { σ with maps := σ.maps ++ [some []] } (w.alloc (.map #[] 0)) ∧ Ext G σ w G' { σ with maps := σ.maps ++ [some []] } (w.alloc (.map #[] 0)) ∧ G'.mapB σ.maps.length = w.heap.size := by
 obtain ⟨h1, x1⟩ := h.new (.map #[] 0) (.map σ.maps.length) (by simp)
 have x2 : Ext { G with own := updN G.own w.heap.size (.map σ.maps.length) } σ (w.alloc (.map #[] 0))
   { G with own := updN G.own w.heap.size (.map σ.maps.length), mapB := updN G.mapB σ.maps.length w.heap.size } { σ with maps := σ.maps ++ [some []] } (w.alloc (.map #[] 0)) :=
  ⟨fun _ h => ⟨h, rfl⟩, Nat.le_refl _, Nat.le_refl _, by simp, fun _ R _ h => ⟨R, h, rfl, Nat.le_refl _, fun _ => rfl⟩, fun _ _ => rfl, fun id hid => by simp only; rw [updN_ne _ _ (by omega)], fun _ h => ⟨h, rfl⟩⟩
 refine ⟨{ G with own := updN G.own w.heap.size (.map σ.maps.length), mapB := updN G.mapB σ.maps.length w.heap.size }, ⟨h1.below, h1.lt, h1.trk, fun id R hR => (h1.rows id R hR).keep x2 rfl (fun _ h => ⟨h, rfl⟩), fun id B hB => (h1.boxes id B hB).keep x2 rfl (fun _ h => ⟨h, rfl⟩), fun id M hM => ?_⟩, x1.trans x2, by simp⟩
 rcases Nat.lt_trichotomy id σ.maps.length with hlt | rfl | hgt
 ·rw [List.getElem?_append_left hlt] at hM
  exact (h1.maps id M hM).keep x2 (by simp only; rw [updN_ne _ _ (by omega)]) (fun _ h => ⟨h, rfl⟩)
 ·simp at hM
  subst hM
  refine ⟨by simp, .inl ⟨rfl, #[], 0, ?_, rfl, by simp, by simp, by simp⟩⟩
  simp only [updN_same]
  exact heap_alloc_new w _
 ·rw [List.getElem?_eq_none (by simp; omega)] at hM
  simp at hM
theorem StoreRel.map_setG (h : StoreRel w0 G σ w) {b : Nat} {M : List (DV × DV)} (hb : σ.maps[b]? = some (some M)) (hw : Wr (G.mapB b) w w') {M' : List (DV × DV)}
  (hr : Ext G σ w G { σ with maps := σ.maps.set b (some M') } w' → PlainRel G { σ with maps := σ.maps.set b (some M') } w' b M' ∨ IterRel G { σ with maps := σ.maps.set b (some M') } w' b M') :
  StoreRel w0 G { σ with maps := σ.maps.set b (some M') } w' ∧ Ext G σ w G { σ with maps := σ.maps.set b (some M') } w' := by
 obtain ⟨ho, _⟩ := h.maps b M hb
 have hne : ∀ k ω, G.own k = ω → ω ≠ .map b → w'.heap[k]? = w.heap[k]? := fun k ω hk hω => hw.other k (fun e => by subst e; rw [ho] at hk; exact hω hk.symm)
 have hx : Ext G σ w G { σ with maps := σ.maps.set b (some M') } w' :=
  ⟨fun k hk => ⟨hk, hne k _ hk (by simp)⟩, Nat.le_refl _, Nat.le_refl _, by simp, fun _ R _ h => ⟨R, h, rfl, Nat.le_refl _, fun _ => rfl⟩, fun _ _ => rfl, fun _ _ => rfl, fun k hk => ⟨hk, hne k _ hk (by simp)⟩⟩
 refine ⟨⟨?_, fun k hk => by rw [hw.size]; exact h.lt k hk, h.trk, fun id R hR => (h.rows id R hR).keep hx rfl (fun k hk => ⟨hk, hne k _ hk (by simp)⟩), fun id B hB => (h.boxes id B hB).keep hx rfl (fun k hk => ⟨hk, hne k _ hk (by simp)⟩), fun id M2 hM => ?_⟩, hx⟩
 ·have ht := h.trk (G.mapB b) (by rw [ho]; simp) (by rw [ho]; simp)
  exact h.below.trans ⟨hw.os, hw.tape, hw.output, by rw [hw.size]; exact Nat.le_refl _, fun k hk => hw.other k (by omega)⟩
 ·by_cases e : id = b
  ·subst e
   rw [List.getElem?_set_self (List.getElem?_eq_some_iff.1 hb).1] at hM
   injection hM with hM; injection hM with hM; subst hM
   exact ⟨ho, hr hx⟩
  ·rw [List.getElem?_set_ne (Ne.symm e)] at hM
   exact (h.maps id M2 hM).keep hx rfl (fun k hk => ⟨hk, hne k _ hk (by simp; exact e)⟩)
theorem StoreRel.map_set (h : StoreRel w0 G σ w) {b : Nat} {M : List (DV × DV)} (hb : σ.maps[b]? = some (some M)) (hw : Wr (G.mapB b) w w') {M' : List (DV × DV)}
  (hr : Ext G σ w G { σ with maps := σ.maps.set b (some M') } w' → PlainRel G { σ with maps := σ.maps.set b (some M') } w' b M') :
  StoreRel w0 G { σ with maps := σ.maps.set b (some M') } w' ∧ Ext G σ w G { σ with maps := σ.maps.set b (some M') } w' := h.map_setG hb hw (fun hE => .inl (hr hE))
theorem setObj_wr {g : Nat} {o o' : Obj} (h : w.heap[g]? = some o) : Wr g w { w with heap := w.heap.setIfInBounds g o' } ∧ ({ w with heap := w.heap.setIfInBounds g o' } : World).heap[g]? = some o' := by
 have hg := (Array.getElem?_eq_some_iff.1 h).1
 refine ⟨⟨rfl, rfl, rfl, by simp, fun k hk => ?_⟩, ?_⟩
 ·simp only [Array.getElem?_setIfInBounds]
  rw [if_neg (Ne.symm hk)]
 ·simp only [Array.getElem?_setIfInBounds]
  rw [if_pos trivial, if_pos hg]

def lookR (v : Option DV) (z : DV) (c : Bool) : DV :=
 match v, c with
 | some v, true => .tup [v, .bool true]
 | some v, false => v
 | none, true => .tup [z, .bool false]
 | none, false => z
def mapOf (σ : Store) : DV → Option (List (DV × DV))
 | .mp id => match σ.maps[id]? with | some (some M) => if isIter M then none else some M | _ => none
 | .cm ks vs => if ks.length = vs.length then some (ks.zip vs) else none
 | _ => none
theorem mapOf_rel (hS : StoreRel w0 G σ w) {d : DV} {v : Value} (hd : RelV G σ w d v) {M : List (DV × DV)} (h : mapOf σ d = some M) :
  ∃ k es clock, v = .map (some k) ∧ w.heap[k]? = some (.map es clock) ∧ es.size = M.length ∧ ∀ (i : Nat) e m, es[i]? = some e → M[i]? = some m → RelV G σ w m.1 e.key ∧ RelV G σ w m.2 e.val := by
 unfold mapOf at h
 split at h
 ·rename_i id
  cases hd
  split at h
  ·rename_i M' hM
   split at h
   ·cases h
   ·rename_i hit
    injection h with h; subst h
    obtain ⟨_, hp | hi⟩ := hS.maps id _ hM
    ·obtain ⟨_, es, clock, h1, h2, h3, _⟩ := hp
     exact ⟨_, es, clock, rfl, h1, h2, h3⟩
    ·obtain ⟨ks, vs, is, k, es, clock, since, last, seen, h1, _⟩ := hi
     rw [h1] at hit
     exact absurd rfl hit
  ·cases h
 ·rename_i ks vs
  split at h
  ·rename_i hl
   injection h with h; subst h
   cases hd with
   | cm _ _ k clock es him hh h1 h2 hk hv hb hn =>
    refine ⟨k, es, clock, rfl, hh, by simp; omega, fun i e m he hm => ?_⟩
    rw [List.getElem?_zip_eq_some] at hm
    exact ⟨hk i _ e hm.1 he, hv i _ e hm.2 he⟩
  ·cases h
 ·cases h
theorem keys_at {T : TypeId → TI} {kt : TypeId} {M : List (DV × DV)} {es : Array MapEntry} (hM : KeysTy T kt M) (hr : ∀ (i : Nat) e m, es[i]? = some e → M[i]? = some m → RelV G σ w m.1 e.key ∧ RelV G σ w m.2 e.val) :
  ∀ (i : Nat) e m, es.toList[i]? = some e → M[i]? = some m → e.key = toVal m.1 := fun i e m he hm => by
 rw [Array.getElem?_toList] at he
 exact (hr i e m he hm).1.key (hM m (List.mem_of_getElem? hm)).isKey
theorem Quiet.lookup (hT : TOK P T) {slots : List DV} {o : Oper} {t kt et : TypeId} {x k : Operand} {c : Bool} (ho : o.op = .lookup t x k c) (ht : (T t).ty = .map kt et) (hne : (T et).ty ≠ .other) {M : List (DV × DV)} (hm : mapOf σ (get slots x) = some M)
  (hk : KeyTy T kt (get slots k)) (hK : KeysTy T kt M) : Quiet P σ slots o (lookR (mget M (get slots k)) (ofVal (T et).zero) c) := by
 intro w0 G a w K Qr hr hKK
 obtain ⟨b, es, clock, hv, hh, hsz, hrel⟩ := mapOf_rel hr.2.2 (get_rel w hr.2.1 x) hm
 have hkv := (get_rel w hr.2.1 k).key hk.isKey
 obtain ⟨y, hy, hik, hsame⟩ := hk.desc hT
 have hf := findNow_at hsame M es.toList 0 hK (by simpa using hsz) (keys_at hK hrel)
 have hfk := MapKept.run_findKey (w := w) hy hf
 have hck := fun e => MapKept.run_checkKey (w := w) hy hik e 9999
 have hrun : ∃ v, (execOp a.eval o).run P w = .ok (.value v) w ∧ RelV G σ w (lookR (mget M (get slots k)) (ofVal (T et).zero) c) v := by
  rw [mget_at]
  cases hmt : mat M (get slots k) with
  | some i =>
   obtain ⟨p, hp, _⟩ := mat_lt hmt
   have hi : i < es.size := by rw [hsz]; exact (List.getElem?_eq_some_iff.1 hp).1
   rw [hmt] at hfk
   simp only [Option.bind_some, Array.getElem?_toList, Array.getElem?_eq_getElem hi, Option.map_some] at hfk
   have hrv := (hrel i es[i] p (Array.getElem?_eq_getElem hi) hp).2
   simp only [Option.bind_some, hp, Option.map_some]
   cases c with
   | true =>
    refine ⟨.tuple #[es[i].val, .bool true], ?_, ?_⟩
    ·simp [execOp, ho, hv, hkv, Instr.lookup, Sem.run_bind, run_underlying (hT.undP_map ht), Result.andThen_ok, MapKept.run_getObj_map hh, hck, hfk]
    ·exact .tup _ [es[i].val, .bool true] rfl (by
      intro j d u h1 h2
      cases j with
      | zero => simp at h1 h2; subst h1; subst h2; exact hrv
      | succ j => cases j with
       | zero => simp at h1 h2; subst h1; subst h2; exact .bool true
       | succ j => simp at h1)
   | false =>
    refine ⟨es[i].val, ?_, hrv⟩
    simp [execOp, ho, hv, hkv, Instr.lookup, Sem.run_bind, run_underlying (hT.undP_map ht), Result.andThen_ok, MapKept.run_getObj_map hh, hck, hfk]
  | none =>
   rw [hmt] at hfk
   simp only [Option.bind_none] at hfk
   have hz := hT.zero w hne
   have hrz : RelV G σ w (ofVal (T et).zero) (T et).zero := ofVal_rel w _
   simp only [Option.bind_none]
   cases c with
   | true =>
    refine ⟨.tuple #[(T et).zero, .bool false], ?_, ?_⟩
    ·simp [execOp, ho, hv, hkv, Instr.lookup, Sem.run_bind, run_underlying (hT.undP_map ht), Result.andThen_ok, MapKept.run_getObj_map hh, hck, hfk, hz]
    ·exact .tup _ [(T et).zero, .bool false] rfl (by
      intro j d u h1 h2
      cases j with
      | zero => simp at h1 h2; subst h1; subst h2; exact hrz
      | succ j => cases j with
       | zero => simp at h1 h2; subst h1; subst h2; exact .bool false
       | succ j => simp at h1)
   | false =>
    refine ⟨(T et).zero, ?_, hrz⟩
    simp [execOp, ho, hv, hkv, Instr.lookup, Sem.run_bind, run_underlying (hT.undP_map ht), Result.andThen_ok, MapKept.run_getObj_map hh, hck, hfk, hz]
 obtain ⟨v, h1, h2⟩ := hrun
 unfold Oper.wp
 rw [h1]
 simp only [Oper.upon]
 exact hKK v G w hr.2.2 (Ext.refl _ _ _) h2

theorem Effect.makeMap {s : St} {o : Oper} {t : TypeId} (ho : o.op = .makeMap t none) : Effect P s o (one (.mp s.σ.maps.length) { s.σ with maps := s.σ.maps ++ [some []] }) := by
 intro w0 G a w hr
 obtain ⟨G', h1, h2, h3⟩ := hr.2.2.newMap
 refine ⟨.value (.map (some w.heap.size)), w.alloc (.map #[] 0), .map (some w.heap.size), .mp s.σ.maps.length, _, G', ?_, .inl rfl, ⟨rfl, rfl⟩, h1, h2, ?_⟩
 ·simp only [execOp, ho]
  rfl
 ·rw [← h3]; exact .mp _ (by simp)
theorem Effect.mapUpdate (hT : TOK P T) {s : St} {o : Oper} {t kt et : TypeId} {x k v : Operand} (ho : o.op = .mapUpdate t x k v ∨ o.op = .insert t x k v) (ht : (T t).ty = .map kt et) {id : Nat} (hx : get s.slots x = .mp id) {M : List (DV × DV)} (hM : s.σ.maps[id]? = some (some M)) (hit : isIter M = false)
  (hk : KeyTy T kt (get s.slots k)) (hK : KeysTy T kt M) : Effect P s o (one .undef { s.σ with maps := s.σ.maps.set id (some (mput M (get s.slots k) (get s.slots v))) }) := by
 intro w0 G a w hr
 have hv : a.eval x = .map (some (G.mapB id)) := by
  have := get_rel w hr.2.1 x
  rw [hx] at this
  generalize a.eval x = vx at this
  cases this; rfl
 obtain ⟨hown, hp | hi⟩ := hr.2.2.maps id _ hM
 ·obtain ⟨_, es, clock, hh, hsz, hrel, hb, hn⟩ := hp
  have hkr := get_rel w hr.2.1 k
  have hvr := get_rel w hr.2.1 v
  have hkv := hkr.key hk.isKey
  obtain ⟨y, hy, hik, hsame⟩ := hk.desc hT
  have hf := findNow_at hsame M es.toList 0 hK (by simpa using hsz) (keys_at hK hrel)
  have hfk := MapKept.run_findKey (w := w) hy hf
  have hck := fun e => MapKept.run_checkKey (w := w) hy hik e 9999
  rw [mput_at]
  have fin : ∀ (es' : Array MapEntry) (clock' : Nat) (M' : List (DV × DV)), isIter M' = false → es'.size = M'.length →
    (∀ (i : Nat) e m, es'[i]? = some e → M'[i]? = some m → RelV G s.σ w m.1 e.key ∧ RelV G s.σ w m.2 e.val) → (∀ (i : Nat) e, es'[i]? = some e → e.born < clock') → (∀ (i j : Nat) e f, es'[i]? = some e → es'[j]? = some f → e.born = f.born → i = j) →
    (execOp a.eval o).run P w = .ok .skip { w with heap := w.heap.setIfInBounds (G.mapB id) (.map es' clock') } →
    ∃ nv w' v' r σ' G', (execOp a.eval o).run P w = .ok nv w' ∧ (nv = .value v' ∨ (nv = .skip ∧ v' = Go.undef)) ∧ one .undef { s.σ with maps := s.σ.maps.set id (some M') } r σ' ∧ StoreRel w0 G' σ' w' ∧ Ext G s.σ w G' σ' w' ∧ RelV G' σ' w' r v' := by
   intro es' clock' M' hi' h1 h2 h3 h4 hrun
   obtain ⟨hw, hh'⟩ := setObj_wr (o' := .map es' clock') hh
   obtain ⟨k1, k2⟩ := hr.2.2.map_set hM hw (M' := M') (fun hE => ⟨hi', es', clock', hh', h1, fun i e m he hm => ⟨(h2 i e m he hm).1.ext hE, (h2 i e m he hm).2.ext hE⟩, h3, h4⟩)
   exact ⟨.skip, _, Go.undef, .undef, _, G, hrun, .inr ⟨rfl, rfl⟩, ⟨rfl, rfl⟩, k1, k2, .undef _⟩
  cases hmt : mat M (get s.slots k) with
  | some i =>
   obtain ⟨p, hp, hpk⟩ := mat_lt hmt
   have hi : i < es.size := by rw [hsz]; exact (List.getElem?_eq_some_iff.1 hp).1
   rw [hmt] at hfk
   simp only [Option.bind_some, Array.getElem?_toList, Array.getElem?_eq_getElem hi, Option.map_some, Nat.zero_add] at hfk
   have hpe : get s.slots k = p.1 := (eqk_iff hk.isKey).1 hpk
   have hke : es[i].key = toVal (get s.slots k) := by rw [(hrel i es[i] p (Array.getElem?_eq_getElem hi) hp).1.key (hK p (List.mem_of_getElem? hp)).isKey, hpe]
   refine fin (es.modify i fun e => { e with key := toVal (get s.slots k), val := a.eval v }) clock _ ?_ ?_ ?_ ?_ ?_ ?_
   ·simp only
    cases M with
    | nil => simp at hp
    | cons m M =>
     cases i with
     | zero =>
      simp only [List.modify_zero_cons]
      simp only [List.getElem?_cons_zero, Option.some.injEq] at hp
      subst hp
      have := hk.isKey
      rw [hpe] at this
      unfold isIter
      split
      ·rename_i he; injection he with he1 he2; injection he1 with he1 he3; rw [he1] at this; cases this
      ·rfl
     | succ i =>
      rw [List.modify_succ_cons]
      unfold isIter at hit ⊢
      split
      ·rename_i he; injection he with he1 he2; rw [he1] at hit; cases hit
      ·rfl
   ·simp [hsz]
   ·intro j e m he hm
    rw [Array.getElem?_modify] at he
    rw [List.getElem?_modify] at hm
    simp only [Option.map_eq_map] at hm
    by_cases e1 : i = j
    ·subst e1
     rw [if_pos rfl] at he
     rw [Array.getElem?_eq_getElem hi] at he
     rw [hp] at hm
     simp only [Option.map_some, Option.some.injEq, if_true] at he hm
     subst he; subst hm
     simp only
     refine ⟨?_, hvr⟩
     rw [← hkv, ← hpe]; exact hkr
    ·rw [if_neg e1] at he
     cases hmj : M[j]? with
     | none => rw [hmj] at hm; simp at hm
     | some q =>
      rw [hmj] at hm
      simp only [Option.map_some, Option.some.injEq, if_neg e1] at hm
      subst hm
      exact hrel j e q he hmj
   ·intro j e he
    rw [Array.getElem?_modify] at he
    by_cases e1 : i = j
    ·subst e1
     rw [if_pos rfl, Array.getElem?_eq_getElem hi] at he
     simp only [Option.map_some, Option.some.injEq] at he
     subst he
     exact hb i es[i] (Array.getElem?_eq_getElem hi)
    ·rw [if_neg e1] at he
     exact hb j e he
   ·intro j1 j2 e f he hf2 hbn
    rw [Array.getElem?_modify] at he hf2
    have key : ∀ (j : Nat) e, (if i = j then (es[j]?).map (fun e => { e with key := toVal (get s.slots k), val := a.eval v }) else es[j]?) = some e → ∃ e', es[j]? = some e' ∧ e'.born = e.born := by
     intro j e h
     split at h
     ·cases hq : es[j]? with
      | none => rw [hq] at h; simp at h
      | some e' => rw [hq] at h; simp only [Option.map_some, Option.some.injEq] at h; subst h; exact ⟨e', rfl, rfl⟩
     ·exact ⟨e, h, rfl⟩
    obtain ⟨e', q1, q2⟩ := key j1 e he
    obtain ⟨f', q3, q4⟩ := key j2 f hf2
    exact hn j1 j2 e' f' q1 q3 (by rw [q2, q4, hbn])
   ·have hst := MapKept.run_keyThatStays (P := P) (w := w) hik
    rcases ho with ho | ho <;> simp [execOp, ho, hv, hkv, Instr.mapUpdate, run_underlying (hT.undP_map ht), MapKept.run_getObj_map hh, hck, hfk, hke, Array.getElem?_eq_getElem hi, hst, MapKept.run_setObj_map _ hh]
  | none =>
   rw [hmt] at hfk
   simp only [Option.bind_none] at hfk
   refine fin (es.push { key := toVal (get s.slots k), val := a.eval v, born := clock }) (clock + 1) _ ?_ ?_ ?_ ?_ ?_ ?_
   ·simp only
    cases M with
    | nil =>
     unfold isIter
     split
     ·rename_i he; simp only [List.nil_append] at he; injection he with he1 he2; injection he1 with he1 he3
      have := hk.isKey
      rw [he1] at this; cases this
     ·rfl
    | cons m M =>
     unfold isIter at hit ⊢
     split
     ·rename_i he; injection he with he1 he2; rw [he1] at hit; cases hit
     ·rfl
   ·simp [hsz]
   ·intro j e m he hm
    rw [Array.getElem?_push] at he
    rcases Nat.lt_trichotomy j M.length with hlt | heq | hgt
    ·rw [if_neg (by omega)] at he
     rw [List.getElem?_append_left hlt] at hm
     exact hrel j e m he hm
    ·rw [if_pos (by omega)] at he
     rw [List.getElem?_append_right (by omega), show j - M.length = 0 by omega] at hm
     simp only [List.getElem?_cons_zero, Option.some.injEq] at he hm
     subst he; subst hm
     simp only
     refine ⟨?_, hvr⟩
     rw [← hkv]; exact hkr
    ·rw [List.getElem?_eq_none (by simp; omega)] at hm; cases hm
   ·intro j e he
    rw [Array.getElem?_push] at he
    split at he
    ·simp only [Option.some.injEq] at he; subst he; simp
    ·have := hb j e he; omega
   ·intro j1 j2 e f he hf2 hbn
    rw [Array.getElem?_push] at he hf2
    split at he
    ·split at hf2
     ·omega
     ·simp only [Option.some.injEq] at he; subst he
      have := hb j2 f hf2
      simp only at hbn; omega
    ·split at hf2
     ·simp only [Option.some.injEq] at hf2; subst hf2
      have := hb j1 e he
      simp only at hbn; omega
     ·exact hn j1 j2 e f he hf2 hbn
   ·rcases ho with ho | ho <;> simp [execOp, ho, hv, hkv, Instr.mapUpdate, run_underlying (hT.undP_map ht), MapKept.run_getObj_map hh, hck, hfk, MapKept.run_setObj_map _ hh]
 ·obtain ⟨ks, vs, is, k', es, clock, since, last, seen, h1, _⟩ := hi
  rw [h1] at hit
  exact absurd hit (by simp [iterL, isIter])
end
section
variable {P : Program} {T : TypeId → TI} {dsts : List (Option Tmp)} {rest : List Oper} {slots slots' : List DV} {σ σ' : Store} {Q : Exit → St → Prop} {ty : TypeId} {pos : String} {af : Array Edge} {g : Option (Nat × Bool)}
theorem W_mkmap {t : Tmp} {tt : TypeId} (k : EvD P dsts rest slots' σ' Q)
  (hs : slots.set t (.mp σ.maps.length) = slots' := by simp only [List.set_cons_succ, List.set_cons_zero]; exact rfl)
  (hσ : (⟨σ.rows, σ.boxes, σ.maps ++ [some []]⟩ : Store) = σ' := by (try simp only [List.append_assoc, List.cons_append, List.nil_append]) <;> exact rfl) : EvD P dsts (⟨some t, .makeMap tt none, ty, pos, af, none⟩ :: rest) slots σ Q := by
 subst hs; subst hσ
 exact EvD_eff1 (Effect.makeMap (s := ⟨slots, σ⟩) rfl) rfl k
theorem W_look (hT : TOK P T) {t : Tmp} {tt kt et : TypeId} {x k : Operand} {c : Bool} {id : Nat} {M : List (DV × DV)} {kd d z : DV} (kk : EvD P dsts rest slots' σ Q)
  (hx : get slots x = .mp id := by simp (disch := omega) only [go_sem]; exact rfl) (hM : σ.maps[id]? = some (some M) := by (try simp only [app_get, app_get0, List.getElem?_cons_succ, List.getElem?_cons_zero]) <;> exact rfl) (hit : isIter M = false := by first | assumption | rfl)
  (hkd : get slots k = kd := by simp (disch := omega) only [go_sem]; exact rfl) (ht : (T tt).ty = .map kt et := by rfl) (hz : ofVal (T et).zero = z := by simp only [go_sem]; exact rfl)
  (hd : lookR (mget M kd) z c = d := by assumption) (hK : KeysTy T kt M := by assumption) (hk : KeyTy T kt kd := by simp only [KeyTy, go_sem]) (hne : (T et).ty ≠ .other := by simp only [go_sem])
  (hon : onD dsts slots g = some true := by simp only [go_sem] <;> fail)
  (hs : slots.set t d = slots' := by simp only [List.set_cons_succ, List.set_cons_zero]; exact rfl) : EvD P dsts (⟨some t, .lookup tt x k c, ty, pos, af, g⟩ :: rest) slots σ Q := by
 subst hs; subst hkd; subst hz
 intro ops ho
 exact EvL_quiet (onD_wanted ho hon) (Quiet.lookup hT rfl ht hne (M := M) (by rw [hx]; simp [mapOf, hM, hit]) hk hK) (by rw [hd]; exact kk ops ho)
theorem W_mput (hT : TOK P T) {op : Op} {tt kt et : TypeId} {x k v : Operand} {id : Nat} {M M' : List (DV × DV)} {kd vd : DV} (kk : EvD P dsts rest slots σ' Q)
  (hop : op = .mapUpdate tt x k v ∨ op = .insert tt x k v := by first | exact .inl rfl | exact .inr rfl) (hx : get slots x = .mp id := by simp (disch := omega) only [go_sem]; exact rfl)
  (hM : σ.maps[id]? = some (some M) := by (try simp only [app_get, app_get0, List.getElem?_cons_succ, List.getElem?_cons_zero]) <;> exact rfl) (hit : isIter M = false := by first | assumption | rfl)
  (hkd : get slots k = kd := by simp (disch := omega) only [go_sem]; exact rfl) (hvd : get slots v = vd := by simp (disch := omega) only [go_sem]; exact rfl)
  (ht : (T tt).ty = .map kt et := by rfl) (hM' : mput M kd vd = M' := by assumption) (hK : KeysTy T kt M := by assumption) (hk : KeyTy T kt kd := by simp only [KeyTy, go_sem])
  (hσ : (⟨σ.rows, σ.boxes, σ.maps.set id (some M')⟩ : Store) = σ' := by (try simp only [List.append_assoc, List.cons_append, List.nil_append, app_set, app_set0, List.set_cons_succ, List.set_cons_zero]) <;> exact rfl) : EvD P dsts (⟨none, op, ty, pos, af, none⟩ :: rest) slots σ Q := by
 subst hσ; subst hkd; subst hvd; subst hM'
 exact EvD_eff0 (Effect.mapUpdate hT (s := ⟨slots, σ⟩) hop ht hx hM hit hk hK) kk
end
end Go.Val
end

section
namespace Go.Val
open Go.RowKit
set_option linter.unusedSimpArgs false
set_option linter.unusedVariables false

section
variable {P : Program} {T : TypeId → TI} {s : St} {w0 : World} {G : Gh} {σ : Store} {w w' : World}
def mfz1 (id : Nat) (M : List (DV × DV)) : DV → DV
 | .mp i => if i = id then .cm (M.map (·.1)) (M.map (·.2)) else .mp i
 | d => d
theorem Effect.range (hT : TOK P T) {s : St} {o : Oper} {t kt et : TypeId} {x : Operand} (ho : o.op = .range t x) (ht : (T t).ty = .map kt et) {ks vs : List DV} (hx : get s.slots x = .cm ks vs) :
  Effect P s o (one (.it s.σ.maps.length) { s.σ with maps := s.σ.maps ++ [some (iterL ks vs [])] }) := by
 intro w0 G a w hr
 have hv := get_rel w hr.2.1 x
 rw [hx] at hv
 obtain ⟨k, es, clock, hv1, him, hh, h1, h2, hk, hvv, hb, hn⟩ : ∃ k es clock, a.eval x = .map (some k) ∧ G.own k = .imm ∧ w.heap[k]? = some (.map es clock) ∧ es.size = ks.length ∧ es.size = vs.length ∧
   (∀ (i : Nat) d e, ks[i]? = some d → es[i]? = some e → RelV G s.σ w d e.key) ∧ (∀ (i : Nat) d e, vs[i]? = some d → es[i]? = some e → RelV G s.σ w d e.val) ∧ (∀ (i : Nat) e, es[i]? = some e → e.born < clock) ∧ (∀ (i j : Nat) e f, es[i]? = some e → es[j]? = some f → e.born = f.born → i = j) := by
  generalize a.eval x = vx at hv
  cases hv with
  | cm _ _ k clock es him hh h1 h2 hk hv hb hn => exact ⟨k, es, clock, rfl, him, hh, h1, h2, hk, hv, hb, hn⟩
 obtain ⟨g1, x1⟩ := hr.2.2.new (.mapIter (some k) clock #[] clock) (.map s.σ.maps.length) (by simp)
 let G' : Gh := { G with own := updN G.own w.heap.size (.map s.σ.maps.length), mapB := updN G.mapB s.σ.maps.length w.heap.size }
 have x2 : Ext { G with own := updN G.own w.heap.size (.map s.σ.maps.length) } s.σ (w.alloc (.mapIter (some k) clock #[] clock)) G' { s.σ with maps := s.σ.maps ++ [some (iterL ks vs [])] } (w.alloc (.mapIter (some k) clock #[] clock)) :=
  ⟨fun _ h => ⟨h, rfl⟩, Nat.le_refl _, Nat.le_refl _, by simp, fun _ R _ h => ⟨R, h, rfl, Nat.le_refl _, fun _ => rfl⟩, fun _ _ => rfl, fun id hid => by simp only [G']; rw [updN_ne _ _ (by omega)], fun _ h => ⟨h, rfl⟩⟩
 have hE := x1.trans x2
 have hcm := (RelV.cm (G := G) (σ := s.σ) (w := w) ks vs k clock es him hh h1 h2 hk hvv hb hn).ext hE
 refine ⟨.value (.pointer (some ⟨w.heap.size, 0, none⟩)), _, .pointer (some ⟨w.heap.size, 0, none⟩), .it s.σ.maps.length, _, G', ?_, .inl rfl, ⟨rfl, rfl⟩, ⟨g1.below, g1.lt, g1.trk, fun id R hR => (g1.rows id R hR).keep x2 rfl (fun _ h => ⟨h, rfl⟩), fun id B hB => (g1.boxes id B hB).keep x2 rfl (fun _ h => ⟨h, rfl⟩), fun id M hM => ?_⟩, hE, ?_⟩
 ·simp only [execOp, ho, hv1]
  simp [run_range_map w t kt et k es clock (hT.undP_map ht) hh]
 ·rcases Nat.lt_trichotomy id s.σ.maps.length with hlt | rfl | hgt
  ·simp only at hM
   rw [List.getElem?_append_left hlt] at hM
   exact (g1.maps id M hM).keep x2 (by simp only [G']; rw [updN_ne _ _ (by omega)]) (fun _ h => ⟨h, rfl⟩)
  ·simp at hM
   subst hM
   refine ⟨by simp [G'], .inr ⟨ks, vs, [], k, es, clock, clock, clock, #[], rfl, hcm, ?_, ?_, hb, Nat.le_refl _, rfl, by simp, rfl⟩⟩
   ·rw [(hE.imm k him).2]; exact hh
   ·simp only [G', updN_same]
    show (w.heap.push _)[w.heap.size]? = _
    simp
  ·simp only at hM
   rw [List.getElem?_eq_none (by simp; omega)] at hM
   simp at hM
 ·have : RelV G' { s.σ with maps := s.σ.maps ++ [some (iterL ks vs [])] } (w.alloc (.mapIter (some k) clock #[] clock)) (.it s.σ.maps.length) (.pointer (some ⟨G'.mapB s.σ.maps.length, 0, none⟩)) := .it _ (by simp)
  simpa [G'] using this
def nextR2 (ks vs : List DV) (is : List Nat) (id : Nat) (σ : Store) (r : DV) (σ' : Store) : Prop :=
 (∃ i, i < ks.length ∧ i ∉ is ∧ r = .tup [.bool true, ks.getD i .undef, vs.getD i .undef] ∧ σ' = { σ with maps := σ.maps.set id (some (iterL ks vs (is ++ [i]))) }) ∨ ((∀ i, i < ks.length → i ∈ is) ∧ r = .tup [.bool false] ∧ σ' = σ)
theorem tup3 {d1 d2 d3 : DV} {v1 v2 v3 : Value} (h1 : RelV G σ w d1 v1) (h2 : RelV G σ w d2 v2) (h3 : RelV G σ w d3 v3) : RelV G σ w (.tup [d1, d2, d3]) (.tuple #[v1, v2, v3]) :=
 .tup _ [v1, v2, v3] rfl (by
  intro j d u e1 e2
  match j with
  | 0 => simp at e1 e2; subst e1; subst e2; exact h1
  | 1 => simp at e1 e2; subst e1; subst e2; exact h2
  | 2 => simp at e1 e2; subst e1; subst e2; exact h3
  | j + 3 => simp at e1)
theorem iter_inj {ks ks' vs vs' : List DV} {is is' : List Nat} (h1 : iterL ks vs is = iterL ks' vs' is') : ks = ks' ∧ vs = vs' ∧ is = is' := by
 unfold iterL at h1
 injection h1 with e1 e2
 injection e1 with e3 e4
 injection e4 with e5 e6
 refine ⟨e5, e6, ?_⟩
 have : ∀ (a b : List Nat), (a.map fun (i : Nat) => ((.int .i64 (i : Int) : DV), DV.nilfn)) = (b.map fun (i : Nat) => ((.int .i64 (i : Int) : DV), DV.nilfn)) → a = b := by
  intro a
  induction a with
  | nil => intro b h; cases b with
   | nil => rfl
   | cons _ _ => simp at h
  | cons x a ih => intro b h; cases b with
   | nil => simp at h
   | cons y b =>
    simp only [List.map_cons, List.cons.injEq, Prod.mk.injEq, DV.int.injEq, true_and, and_true] at h
    rw [ih b h.2, show x = y by omega]
 exact this _ _ e2
theorem Effect.next {s : St} {o : Oper} {x : Operand} (ho : o.op = .next x false) {id : Nat} (hx : get s.slots x = .it id) {ks vs : List DV} {is : List Nat} (hM : s.σ.maps[id]? = some (some (iterL ks vs is))) : Effect P s o (nextR2 ks vs is id s.σ) := by
 intro w0 G a w hr
 have hv : a.eval x = .pointer (some ⟨G.mapB id, 0, none⟩) := by
  have := get_rel w hr.2.1 x
  rw [hx] at this
  generalize a.eval x = vx at this
  cases this; rfl
 obtain ⟨hown, hp | hi⟩ := hr.2.2.maps id _ hM
 ·exact absurd hp.1 (by simp [iterL, isIter])
 obtain ⟨ks', vs', is', k, es, clock, since, last, seen, h1, h2, h3, h4, h5, h6, h7, h8, h9⟩ := hi
 obtain ⟨rfl, rfl, rfl⟩ := iter_inj h1
 obtain ⟨him, hz1, hz2, hk, hvv, hb, hn⟩ : G.own k = .imm ∧ es.size = ks.length ∧ es.size = vs.length ∧ (∀ (i : Nat) d e, ks[i]? = some d → es[i]? = some e → RelV G s.σ w d e.key) ∧ (∀ (i : Nat) d e, vs[i]? = some d → es[i]? = some e → RelV G s.σ w d e.val) ∧
   (∀ (i : Nat) e, es[i]? = some e → e.born < clock) ∧ (∀ (i j : Nat) e f, es[i]? = some e → es[j]? = some f → e.born = f.born → i = j) := by
  cases h2 with
  | cm _ _ _ clock' es' him hh a1 a2 hk hv hb hn =>
   rw [h3] at hh
   injection hh with hh
   injection hh with e1 e2
   subst e1; subst e2
   exact ⟨him, a1, a2, hk, hv, hb, hn⟩
 have hold : ∀ x ∈ es.toList, x.born < since := fun x hx => by
  obtain ⟨i, hi, rfl⟩ := List.getElem_of_mem hx
  exact h5 i _ (by rw [Array.getElem?_eq_getElem (by simpa using hi)]; simp)
 have hmem : ∀ (i : Nat) e, es[i]? = some e → (seen.contains e.born = true ↔ i ∈ is) := by
  intro i e he
  rw [Array.contains_iff_mem, ← Array.mem_toList_iff, h7, List.mem_map]
  constructor
  ·rintro ⟨j, hj, hje⟩
   have hjl := h8 j hj
   rw [Array.getElem?_eq_getElem hjl] at hje
   simp only [Option.map_some, Option.getD_some] at hje
   have := hn j i _ e (Array.getElem?_eq_getElem hjl) he hje
   rw [← this]; exact hj
  ·intro hi
   exact ⟨i, hi, by rw [he]; rfl⟩
 rcases run_next_at (P := P) w o.type (G.mapB id) k since last seen es clock h4 h3 hold h6 with ⟨q1, q2⟩ | ⟨e, q1, w1, q2, q3⟩
 ·refine ⟨.value (.tuple #[.bool false]), w, .tuple #[.bool false], .tup [.bool false], s.σ, G, ?_, .inl rfl, .inr ⟨fun i hi => ?_, rfl, rfl⟩, hr.2.2, Ext.refl _ _ _, ?_⟩
  ·simp only [execOp, ho, hv]
   simp [q2]
  ·have he : es[i]? = some es[i] := Array.getElem?_eq_getElem (by omega)
   rw [← hmem i _ he]
   have hz := Array.eq_empty_of_size_eq_zero q1
   unfold leftOf at hz
   rw [Array.filter_eq_empty_iff] at hz
   have := hz es[i] (Array.getElem_mem (by omega))
   simpa using this
  ·exact .tup _ [.bool false] rfl (by
    intro j d u e1 e2
    cases j with
    | zero => simp at e1 e2; subst e1; subst e2; exact .bool false
    | succ j => simp at e1)
 ·unfold leftOf at q1
  simp only [Array.toList_filter, List.mem_filter, Array.mem_toList_iff, Bool.not_eq_true'] at q1
  obtain ⟨qm, qs⟩ := q1
  obtain ⟨i, hi, rfl⟩ := Array.getElem_of_mem qm
  have he : es[i]? = some es[i] := Array.getElem?_eq_getElem hi
  have hni : i ∉ is := fun h => by rw [(hmem i _ he).2 h] at qs; cases qs
  have hd1 : StoreRel w0 G s.σ w1 ∧ Ext G s.σ w G s.σ w1 := by
   rcases q2 with rfl | rfl
   ·exact ⟨hr.2.2, Ext.refl _ _ _⟩
   ·exact hr.2.2.drew
  have h4' : w1.heap[G.mapB id]? = some (.mapIter (some k) since seen last) := by rcases q2 with rfl | rfl <;> exact h4
  have h3' : w1.heap[k]? = some (.map es clock) := by rcases q2 with rfl | rfl <;> exact h3
  obtain ⟨hwr, hh'⟩ := setObj_wr (o' := .mapIter (some k) since (seen.push es[i].born) clock) h4'
  have hks : ks.getD i .undef = ks[i]'(by omega) := by rw [List.getD_eq_getElem?_getD, List.getElem?_eq_getElem (by omega)]; rfl
  have hvs : vs.getD i .undef = vs[i]'(by omega) := by rw [List.getD_eq_getElem?_getD, List.getElem?_eq_getElem (by omega)]; rfl
  obtain ⟨k1, k2⟩ := hd1.1.map_setG hM hwr (M' := iterL ks vs (is ++ [i])) (fun hE => .inr ⟨ks, vs, is ++ [i], k, es, clock, since, clock, seen.push es[i].born, rfl, (h2.ext hd1.2).ext hE, by rw [hwr.other k (fun e => by rw [e, h4'] at h3'; cases h3')]; exact h3', hh', h5, by
    rw [← h9]; exact h6, by simp [h7, he], fun j hj => by
    rcases List.mem_append.1 hj with h | h
    ·exact h8 j h
    ·rw [List.mem_singleton.1 h]; exact hi, rfl⟩)
  refine ⟨.value (.tuple #[.bool true, es[i].key, es[i].val]), _, .tuple #[.bool true, es[i].key, es[i].val], .tup [.bool true, ks.getD i .undef, vs.getD i .undef], _, G, ?_, .inl rfl, .inl ⟨i, by omega, hni, rfl, rfl⟩, k1, hd1.2.trans k2, ?_⟩
  ·simp only [execOp, ho, hv]
   simp [q3]
   rfl
  ·have hE2 := hd1.2.trans k2
   exact tup3 (.bool true) (by rw [hks]; exact (hk i _ _ (List.getElem?_eq_getElem _) he).ext hE2) (by rw [hvs]; exact (hvv i _ _ (List.getElem?_eq_getElem _) he).ext hE2)
end
def RoundM (s : List Nat → List DV) (st : List Nat → Store) (n : Nat) (is : List Nat) (Q : Exit → St → Prop) : Exit → St → Prop
 | .normal, x => ∃ i, i < n ∧ i ∉ is ∧ ((LeL x.slots (s (is ++ [i])) ∧ x.σ = st (is ++ [i])) ∨ Leaves (st is) x (s (is ++ [i])) (st (is ++ [i])))
 | e, x => Q e x
section
variable {P : Program} {T : TypeId → TI} {dsts : List (Option Tmp)} {rest : List Oper} {slots slots' : List DV} {σ σ' : Store} {Q : Exit → St → Prop} {ty : TypeId} {pos : String} {af : Array Edge}
end
section
variable {P : Program} {E : Store → Prop} {K : List DV → Store → Prop} {dsts : List (Option Tmp)} {l : List Oper} {f : List Bool} {s s' : List DV} {σ : Store} {c : Call} {dst : Option Tmp} {ty : TypeId} {pos : String} {af : Array Edge} {g : Option (Nat × Bool)}
theorem D_off (k : DrD P E dsts l f.tail s' σ K) (hon : onD dsts s g = some false := by simp only [go_sem] <;> fail) (hf : f.headD false = false := by rfl)
  (hs : putS s dst (.tup []) = s' := by simp only [putS, List.set_cons_succ, List.set_cons_zero]; exact rfl)
  (hE : E σ := by first | exact ⟨rfl, rfl⟩ | exact trivial | exact rfl | exact EP_app _ _ _ | exact EP_self _ | exact EP_one _ _) : DrD P E dsts (⟨dst, .call c, ty, pos, af, g⟩ :: l) f s σ K := by
 intro ops ho
 exact ⟨hE, .inl ⟨onD_wanted ho hon, hf, by rw [putS_eq, hs]; exact k ops ho⟩⟩
end
end Go.Val
end

section
namespace Go.Val
open Go.RowKit
set_option linter.unusedSimpArgs false
set_option linter.unusedVariables false
section
variable {P : Program} {T : TypeId → TI} {s : St}
end
section
variable {P : Program} {T : TypeId → TI} {dsts : List (Option Tmp)} {rest : List Oper} {slots slots' : List DV} {σ σ' : Store} {Q : Exit → St → Prop} {ty : TypeId} {pos : String} {af : Array Edge}
end
end Go.Val
end
