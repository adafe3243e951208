/- The rules in the form in which a program's text is gone through. New memory that is only read: slices written out, texts as octets. Structs, arrays and pointers compared. A new slice of noughts that is only read. A run of operations in one go: as far as they can be followed. Numbers as words and octets; stores that have grown; loops by what each round finds. -/
import Derived.Test.YtlfnmgmbmgacgaaVM2
import Derived.Laws.IdiomStrings
import Derived.Laws.BitsLemmas
import Derived.Laws.BitsAllLaws
import Derived.Laws.Bits64
section
namespace Go.Val
open Go.RowKit
set_option linter.unusedSimpArgs false
set_option linter.unusedVariables false

def EvD (P : Program) (dsts : List (Option Tmp)) (l : List Oper) (slots : List DV) (σ : Store) (Q : Exit → St → Prop) : Prop :=
 ∀ ops : Array Oper, ops.toList.map (·.dst) = dsts → EvL P ops l ⟨slots, σ⟩ Q

def FnAt (P : Program) (f : FuncId) : Prop := ∃ fn body, P.funcs[f]? = some fn ∧ fn.body = some body ∧ fn.name ≠ "runtime.NumGoroutine"

def guardD (dsts : List (Option Tmp)) (slots : List DV) (j : Nat) : Option Bool :=
 match dsts.getD j none with
 | some t => match slots.getD t .undef with
  | .bool b => some b
  | _ => none
 | none => none

section
variable {P : Program} {T : TypeId → TI} {dsts : List (Option Tmp)} {rest : List Oper} {slots slots' : List DV} {σ σ' : Store} {Q : Exit → St → Prop} {t : Tmp} {op : Op} {ty : TypeId} {pos : String} {af : Array Edge}

theorem Ev_regionD {id : Nat} {l : List Oper} (hd : l.map (·.dst) = dsts) (h : EvD P dsts l slots σ Q) : Ev P (.region id l.toArray false) ⟨slots, σ⟩ Q :=
 Ev_region (h _ (by simpa using hd))

theorem EvD_nil (h : Q .normal ⟨slots, σ⟩) : EvD P dsts [] slots σ Q := fun _ _ => EvL_nil h

theorem EvD_eff {R : DV → Store → Prop} {dst : Option Tmp} (h : Effect P ⟨slots, σ⟩ ⟨dst, op, ty, pos, af, none⟩ R) (k : ∀ r σ', R r σ' → EvD P dsts rest (St.put ⟨slots, σ'⟩ dst r).slots σ' Q) :
  EvD P dsts (⟨dst, op, ty, pos, af, none⟩ :: rest) slots σ Q := by
 intro ops ho
 refine EvL_effect rfl h (fun r σ' hR => ?_)
 have := k r σ' hR ops ho
 cases dst <;> exact this
theorem Pure.body (hT : TOK P T) {f : FuncId} {fn : Func} {c : Code} {args : List DV} {d : DV} {slots : List DV} {n : Nat} (hf : P.funcs[f]? = some fn) (hb : fn.body = some c) (hd : d.named 0 0 0 = true) (hn : fn.ntmps = n)
  (hs : args ++ List.replicate (n - args.length) .undef = slots)
  (h : ∀ σ, Ev P c ⟨slots, σ⟩ (RetQ T fn.results.toList (fun r σ' => r = d ∧ ∃ rs bs ms, σ' = ⟨σ.rows ++ rs, σ.boxes ++ bs, σ.maps ++ ms⟩))) : Pure P f args d :=
 Pure.of hd (fun σ => Does_body hT hf hb (by rw [hn, hs]; exact h σ))
theorem PureOwn.body (hT : TOK P T) {f : FuncId} {fn : Func} {c : Code} {args : List DV} {xs : List DV} {e : TypeId} {st : Nat} {slots : List DV} {n : Nat} (hf : P.funcs[f]? = some fn) (hb : fn.body = some c) (hd : nameds 0 0 0 xs = true) (hn : fn.ntmps = n)
  (hs : args ++ List.replicate (n - args.length) .undef = slots)
  (h : ∀ σ, Ev P c ⟨slots, σ⟩ (RetQ T fn.results.toList (fun r σ' => ∃ id, σ.rows.length ≤ id ∧ r = .row id xs.length ∧ σ'.rows[id]? = some (some ⟨xs, e, st⟩) ∧ ∃ rs bs ms, σ' = ⟨σ.rows ++ rs, σ.boxes ++ bs, σ.maps ++ ms⟩))) : PureOwn P f args xs e st :=
 fun σ => Does.own hd (Does_body hT hf hb (by rw [hn, hs]; exact h σ))
theorem Does.body (hT : TOK P T) {f : FuncId} {fn : Func} {c : Code} {args : List DV} {slots : List DV} {n : Nat} {R : DV → Store → Prop} (hf : P.funcs[f]? = some fn) (hb : fn.body = some c) (hn : fn.ntmps = n)
  (hs : args ++ List.replicate (n - args.length) .undef = slots) (h : Ev P c ⟨slots, σ⟩ (RetQ T fn.results.toList R)) : Does P f args σ R :=
 Does_body hT hf hb (by rw [hn, hs]; exact h)

end
end Go.Val
end

section
namespace Go.Val
open Go.RowKit
set_option linter.unusedSimpArgs false
set_option linter.unusedVariables false

section
variable {P : Program} {T : TypeId → TI} {w0 : World} {G : Gh} {σ : Store} {w : World}
theorem StoreRel.newImm (h : StoreRel w0 G σ w) (o : Obj) :
  StoreRel w0 { G with own := updN G.own w.heap.size .imm } σ (w.alloc o) ∧ Ext G σ w { G with own := updN G.own w.heap.size .imm } σ (w.alloc o) := by
 have hold : ∀ k ω', G.own k = ω' → ω' ≠ .free → updN G.own w.heap.size .imm k = ω' ∧ (w.alloc o).heap[k]? = w.heap[k]? := fun k ω' hk hf => by
  have hlt := h.lt k (by rw [hk]; exact hf)
  exact ⟨by rw [updN_ne _ _ (by omega)]; exact hk, Below.heap_alloc _ _ _ hlt⟩
 have hx : Ext G σ w { G with own := updN G.own w.heap.size .imm } σ (w.alloc o) :=
  ⟨fun k hk => hold k _ hk (by simp), Nat.le_refl _, Nat.le_refl _, Nat.le_refl _, fun _ R _ h => ⟨R, h, rfl, Nat.le_refl _, fun _ => rfl⟩, fun _ _ => rfl, fun _ _ => rfl, fun k hk => hold k _ hk (by simp)⟩
 refine ⟨⟨h.below.alloc h.below.size o, fun k hk => ?_, fun k hk hi => ?_, fun id R hR => (h.rows id R hR).keep hx rfl (fun k hk => hold k _ hk (by simp)), fun id B hB => (h.boxes id B hB).keep hx rfl (fun k hk => hold k _ hk (by simp)), fun id M hM => (h.maps id M hM).keep hx rfl (fun k hk => hold k _ hk (by simp))⟩, hx⟩
 ·simp only [World.size_alloc]
  by_cases e : k = w.heap.size
  ·omega
  ·simp only [updN_ne _ _ e] at hk
   have := h.lt k hk
   omega
 ·by_cases e : k = w.heap.size
  ·rw [e]; exact h.below.size
  ·simp only [updN_ne _ _ e] at hk hi
   exact h.trk k hk hi

def groupsD (agg : Bool) (sz n : Nat) (cs : List DV) : List DV :=
 (List.range n).map fun i => if agg then .agg ((cs.drop (i * sz)).take sz) else cs.getD i .undef

def newD (T : TypeId → TI) (σ : Store) (slots : List DV) (op : Op) : Option (Prop × DV) :=
 match op with
 | .buildSlice t len parts =>
  match (T t).ty with
  | .slice e =>
   match fillD T (fun i => some (i * (T e).size, (T e).size)) σ (flat (List.replicate len (ofVal (T e).zero))) (parts.toList.map fun p => (p.1, get slots p.2)) with
   | some (C, cs) => some ((T e).ty ≠ .other ∧ len * (T e).size ≤ 16777216 ∧ 0 < (T e).size ∧ (T e).zero.cells.size = (T e).size ∧ flat (groupsD (T e).isAgg (T e).size len cs) = cs ∧
     (∀ x ∈ groupsD (T e).isAgg (T e).size len cs, x.cells.length = (T e).size) ∧ C, .slt (groupsD (T e).isAgg (T e).size len cs))
   | none => none
  | _ => none
 | .convert src dst x =>
  match (T dst).ty, get slots x with
  | .slice e, .str s => some ((T src).ty = .str ∧ (T e).ty = .int .u8, .sl (bytes s))
  | _, _ => none
 | _ => none

theorem flat_bytes_of (s : List UInt8) : flat (bytes s) = bytes s := by
 induction s with
 | nil => rfl
 | cons b s ih => simp only [flat, bytes, List.map_cons, List.flatMap_cons, DV.cells, List.singleton_append] at *; rw [ih]

theorem MemAt.alloc (w : World) {cs : List DV} {arr : Array Value} {t : TypeId} {fr : Nat × Nat} {G : Gh} (h : ∀ (i : Nat) d, cs[i]? = some d → ∃ v, arr[i]? = some v ∧ RelV G σ (w.alloc (.cells arr t fr)) d v) :
  MemAt G σ (w.alloc (.cells arr t fr)) w.heap.size 0 cs := by
 have hcell : ∀ i, (w.alloc (.cells arr t fr)).cell? ⟨w.heap.size, 0 + i, none⟩ = arr[i]? := by
  intro i
  unfold World.cell?
  rw [show (w.alloc (.cells arr t fr)).heap[w.heap.size]? = some (.cells arr t fr) from heap_alloc_new w _]
  simp
 refine MemAt.of_fun (vs := fun i => (arr[i]?).getD Go.undef) (fun i hi => ?_) (fun i d hd => ?_)
 ·obtain ⟨v, hv, _⟩ := h i _ (List.getElem?_eq_getElem hi)
  rw [hcell i, hv]; rfl
 ·obtain ⟨v, hv, hr⟩ := h i d hd
  rw [hv]; exact hr

theorem build_run (hT : TOK P T) {slots : List DV} {a : Act} {t e : TypeId} {len : Nat} {parts : Array (Nat × Operand)} (ht : (T t).ty = .slice e) {C' : Prop} {cs : List DV} (hr : RelS w0 G ⟨slots, σ⟩ a w)
  (hf : fillD T (fun i => some (i * (T e).size, (T e).size)) σ (flat (List.replicate len (ofVal (T e).zero))) (parts.toList.map fun p => (p.1, get slots p.2)) = some (C', cs))
  (hne : (T e).ty ≠ .other) (hsz : len * (T e).size ≤ 16777216) (hzc : (T e).zero.cells.size = (T e).size) (hc : C') :
  ∃ rs : Array Value, (Instr.buildSlice t len (parts.map fun (i, x) => (i, a.eval x))).run P w = .ok (.slice (some ⟨w.heap.size, 0, none⟩) len len) (w.alloc (.cells rs e)) ∧ RelL G σ w cs rs.toList := by
 obtain ⟨z, hzr⟩ : ∃ z : Array Value, z = (if len * (T e).size = 0 then #[] else (T e).zero.cells) := ⟨_, rfl⟩
 have hrel0 : RelL G σ w (flat (List.replicate len (ofVal (T e).zero))) ((Array.range (len * (T e).size)).map (z[· % z.size]!)).toList := by
  have hcl : (ofVal (T e).zero).cells.length = (T e).size := by
   have := (ofVal_cells (G := G) (σ := σ) (w := w) (T e).zero).1
   rw [← this, Array.length_toList, hzc]
  have hlen : (flat (List.replicate len (ofVal (T e).zero))).length = len * (T e).size := by
   rw [flat_len (st := (T e).size) (fun x hx => by rw [List.eq_of_mem_replicate hx]; exact hcl)]; simp
  refine ⟨by simp [hlen], fun i c v hi hv => ?_⟩
  have hlt := (List.getElem?_eq_some_iff.1 hi).1
  rw [hlen] at hlt
  rw [if_neg (by omega)] at hzr
  subst hzr
  rw [Array.getElem?_toList] at hv
  rw [← hzc] at hv
  exact zeros_rel hi hv
 have hparts : RelL G σ w ((parts.toList.map fun p => (p.1, get slots p.2)).map (·.2)) (((parts.map fun (p : Nat × Operand) => (p.1, a.eval p.2)).toList).map (·.2)) := by
  have := gets_rel w hr.2.1 (parts.map (·.2))
  simpa [gets, List.map_map, Function.comp_def] using this
 obtain ⟨rs, hrs, hrel⟩ := fill_sound (T := T) w hr.2.2 _ ((parts.map fun (p : Nat × Operand) => (p.1, a.eval p.2)).toList) _ _ _ _ (by simp [List.map_map, Function.comp_def]) hparts hrel0 hf hc
 refine ⟨rs, ?_, hrel⟩
 simp only [Instr.buildSlice, Sem.run_bind, TOK.und_slice hT w ht, Result.andThen_ok, TOK.size hT w hne, Sem.run_ite, Sem.run_pure]
 rw [if_neg (by omega)]
 by_cases h0 : len * (T e).size = 0
 ·rw [if_pos h0] at hzr ⊢
  subst hzr
  rw [hrs]
  simp [newRow]
 ·rw [if_neg h0] at hzr ⊢
  subst hzr
  simp only [TOK.zero hT w hne, Result.andThen_ok]
  rw [hrs]
  simp [newRow]

theorem Quiet.new (hT : TOK P T) {σ : Store} {slots : List DV} {o : Oper} {C : Prop} {d : DV} (h : newD T σ slots o.op = some (C, d)) (hc : C) : Quiet P σ slots o d := by
 intro w0 G a w K Qr hr hK
 unfold newD at h
 split at h
 ·rename_i t len parts ho
  split at h
  ·rename_i e ht
   split at h
   ·rename_i C' cs hf
    simp only [Option.some.injEq, Prod.mk.injEq] at h; obtain ⟨rfl, rfl⟩ := h
    obtain ⟨hne, hsz, hs0, hzc, hfl, hst, hc⟩ := hc
    generalize hxs : groupsD (T e).isAgg (T e).size len cs = xs at *
    have hxl : xs.length = len := by rw [← hxs]; simp [groupsD]
    obtain ⟨rs, hrs, hrel⟩ := build_run hT ht hr hf hne hsz hzc hc
    have hrun : (execOp a.eval o).run P w = .ok (.value (.slice (some ⟨w.heap.size, 0, none⟩) len len)) (w.alloc (.cells rs e)) := by
     simp only [execOp, ho, Sem.run_bind, hrs, Result.andThen_ok]
     rfl
    simp only [Oper.wp, hrun, Oper.upon]
    obtain ⟨k1, k2⟩ := hr.2.2.newImm (.cells rs e)
    refine hK _ _ _ k1 k2 ?_
    have := RelV.slt_mk (A := some ⟨w.heap.size, 0, none⟩) (G := { G with own := updN G.own w.heap.size .imm }) (σ := σ) (w := w.alloc (.cells rs e)) (xs := xs) hst
     (.inr ⟨w.heap.size, 0, rfl, by simp, MemAt.alloc w (fun i d hd => by
      rw [hfl] at hd
      have hi : i < rs.size := by have := (List.getElem?_eq_some_iff.1 hd).1; rw [← hrel.1] at this; simpa using this
      exact ⟨rs[i], Array.getElem?_eq_getElem hi, (hrel.2 i d _ hd (by simp)).ext k2⟩)⟩)
    rw [hxl] at this
    exact this
   ·simp at h
  ·simp at h
 ·rename_i src dst x ho
  split at h
  ·rename_i e s hd hx
   simp only [Option.some.injEq, Prod.mk.injEq] at h; obtain ⟨rfl, rfl⟩ := h
   obtain ⟨h1, h2⟩ := hc
   have hv := get_rel w hr.2.1 x
   rw [hx] at hv
   generalize hxe : a.eval x = vx at hv
   cases hv
   have hsz : (⟨s.toArray⟩ : ByteArray).size = s.length := by show s.toArray.size = _; simp
   have hrun : (execOp a.eval o).run P w = .ok (.value (.slice (some ⟨w.heap.size, 0, none⟩) s.length (grownCap w s.length 0 e)))
     (w.drew.alloc (.cells (bytesRow ⟨s.toArray⟩ (grownCap w s.length 0 e)) e ((bytesRow ⟨s.toArray⟩ (grownCap w s.length 0 e)).size, (bytesRow ⟨s.toArray⟩ (grownCap w s.length 0 e)).size + 1))) := by
    have := run_bytes_of_string (P := P) w src dst e ⟨s.toArray⟩ (TOK.undP_str hT h1) (TOK.undP_slice hT hd) (TOK.undP_int hT h2)
    rw [hsz] at this
    simp only [execOp, ho, hxe, Sem.run_bind, this, Result.andThen_ok]
    rfl
   simp only [Oper.wp, hrun, Oper.upon]
   have d1 : StoreRel w0 G σ w.drew := ⟨hr.2.2.below.drew, hr.2.2.lt, hr.2.2.trk, fun id R hR => (hr.2.2.rows id R hR).keep (w' := w.drew) ⟨fun _ h => ⟨h, rfl⟩, Nat.le_refl _, Nat.le_refl _, Nat.le_refl _, fun _ R _ h => ⟨R, h, rfl, Nat.le_refl _, fun _ => rfl⟩, fun _ _ => rfl, fun _ _ => rfl, fun _ h => ⟨h, rfl⟩⟩ rfl (fun _ hk => ⟨hk, rfl⟩),
    fun id B hB => (hr.2.2.boxes id B hB).keep (w' := w.drew) ⟨fun _ h => ⟨h, rfl⟩, Nat.le_refl _, Nat.le_refl _, Nat.le_refl _, fun _ R _ h => ⟨R, h, rfl, Nat.le_refl _, fun _ => rfl⟩, fun _ _ => rfl, fun _ _ => rfl, fun _ h => ⟨h, rfl⟩⟩ rfl (fun _ hk => ⟨hk, rfl⟩), fun id M hM => (hr.2.2.maps id M hM).keep (w' := w.drew) ⟨fun _ h => ⟨h, rfl⟩, Nat.le_refl _, Nat.le_refl _, Nat.le_refl _, fun _ R _ h => ⟨R, h, rfl, Nat.le_refl _, fun _ => rfl⟩, fun _ _ => rfl, fun _ _ => rfl, fun _ h => ⟨h, rfl⟩⟩ rfl (fun _ hk => ⟨hk, rfl⟩)⟩
   have d2 : Ext G σ w G σ w.drew := ⟨fun _ h => ⟨h, rfl⟩, Nat.le_refl _, Nat.le_refl _, Nat.le_refl _, fun _ R _ h => ⟨R, h, rfl, Nat.le_refl _, fun _ => rfl⟩, fun _ _ => rfl, fun _ _ => rfl, fun _ h => ⟨h, rfl⟩⟩
   obtain ⟨k1, k2⟩ := d1.newImm (.cells (bytesRow ⟨s.toArray⟩ (grownCap w s.length 0 e)) e ((bytesRow ⟨s.toArray⟩ (grownCap w s.length 0 e)).size, (bytesRow ⟨s.toArray⟩ (grownCap w s.length 0 e)).size + 1))
   refine hK _ _ _ k1 (d2.trans k2) ?_
   have hbl : (bytes s).length = s.length := by simp [bytes]
   have hcap : (bytes s).length ≤ grownCap w s.length 0 e := by rw [hbl]; exact grownCap_ge w s.length 0 e
   have := RelV.sl_mk (A := some ⟨w.heap.size, 0, none⟩) (G := { G with own := updN G.own w.heap.size .imm }) (σ := σ) (w := w.drew.alloc (.cells (bytesRow ⟨s.toArray⟩ (grownCap w s.length 0 e)) e ((bytesRow ⟨s.toArray⟩ (grownCap w s.length 0 e)).size, (bytesRow ⟨s.toArray⟩ (grownCap w s.length 0 e)).size + 1))) (xs := bytes s) (c := grownCap w s.length 0 e) (st := 1) hcap
    (by intro x hx; simp only [bytes, List.mem_map] at hx; obtain ⟨b, _, rfl⟩ := hx; rfl)
    (.inr ⟨w.heap.size, 0, rfl, by show updN G.own w.heap.size .imm w.heap.size = .imm; simp, by
     refine MemAt.alloc w.drew (fun i d hd => ?_)
     rw [flat_bytes_of] at hd
     simp only [bytes, List.getElem?_map, Option.map_eq_some_iff] at hd
     obtain ⟨b, hb, rfl⟩ := hd
     obtain ⟨hi, hb⟩ := List.getElem?_eq_some_iff.1 hb
     refine ⟨_, bytesRow_at ⟨s.toArray⟩ _ i (by simpa using hi), ?_⟩
     have : (⟨s.toArray⟩ : ByteArray).data[i]'(by simpa using hi) = b := by simpa using hb
     rw [this]
     exact .int _ _⟩)
   rw [hbl] at this
   exact this
  ·simp at h
 ·simp at h
end
end Go.Val
end

section
namespace Go.Val
open Go.RowKit
set_option linter.unusedSimpArgs false
set_option linter.unusedVariables false

def eqAllD (T : TypeId → TI) (f : TypeId → DV → DV → Option (Prop × Bool)) : List (TypeId × Nat) → List DV → List DV → Option (Prop × Bool)
  | [], _, _ => some (True, true)
  | (e, off) :: l, cs, ds =>
    match partD T e cs off, partD T e ds off with
    | some (C1, x), some (C2, y) =>
      match f e x y, eqAllD T f l cs ds with
      | some (C3, b), some (C4, b') => some (C1 ∧ C2 ∧ C3 ∧ C4, b && b')
      | _, _ => none
    | _, _ => none
def eqD (T : TypeId → TI) : Nat → TypeId → DV → DV → Option (Prop × Bool)
  | 0, _, _, _ => none
  | d + 1, t, x, y =>
    match (T t).ty, x, y with
    | .int _, .int k a, .int k' b => some (k = k', decide (a = b))
    | .bool, .bool a, .bool b => some (True, a == b)
    | .str, .str a, .str b => some (True, decide (a = b))
    | .array n e, .agg cs, .agg ds =>
      match eqAllD T (eqD T d) ((List.range n).map fun i => (e, i * (T e).size)) cs ds with
      | some (C, b) => some ((T e).ty ≠ .other ∧ C, b)
      | none => none
    | .struct fs, .agg cs, .agg ds =>
      match eqAllD T (eqD T d) fs cs ds with
      | some (C, b) => some ((T t).eqok = true ∧ C, b)
      | none => none
    | _, _, _ => none
def Ty.plain : Ty → Bool
  | .int _ | .bool | .str => true
  | _ => false
def eqTop (T : TypeId → TI) (t : TypeId) : Prop :=
  match (T t).ty with
  | .struct _ => (T t).eqok = true
  | .array _ e => (T e).ty.plain = true
  | _ => False

def cmpD (T : TypeId → TI) (slots : List DV) (op : Op) : Option (Prop × DV) :=
  match op with
  | .binOp .eql t x y _ =>
    match get slots x, get slots y with
    | .agg cs, .agg ds =>
      match eqD T 100 t (.agg cs) (.agg ds) with
      | some (C, b) => some (eqTop T t ∧ C, .bool b)
      | none => none
    | .nilp, .nilp => some (∃ e, (T t).ty = .ptr e, .bool true)
    | .ptr _ _, .nilp => some (∃ e, (T t).ty = .ptr e, .bool false)
    | .cp _, .nilp => some (∃ e, (T t).ty = .ptr e, .bool false)
    | _, _ => none
  | .binOp .neq t x y _ =>
    match get slots x, get slots y with
    | .agg cs, .agg ds =>
      match eqD T 100 t (.agg cs) (.agg ds) with
      | some (C, b) => some (eqTop T t ∧ C, .bool (!b))
      | none => none
    | .nilp, .nilp => some (∃ e, (T t).ty = .ptr e, .bool false)
    | .ptr _ _, .nilp => some (∃ e, (T t).ty = .ptr e, .bool true)
    | .cp _, .nilp => some (∃ e, (T t).ty = .ptr e, .bool true)
    | _, _ => none
  | _ => none

section
variable {P : Program} {T : TypeId → TI} {G : Gh} {σ : Store} (w : World)

theorem eqD_sound (hT : TOK P T) : ∀ (d : Nat) (t : TypeId) (x y : DV) (vx vy : Value) (C : Prop) (b : Bool), eqD T d t x y = some (C, b) → C → RelV G σ w x vx → RelV G σ w y vy → ∀ D, d ≤ D → (Op.equalIn D t vx vy).run P w = .ok b w := by
  intro d
  induction d with
  | zero => intro t x y vx vy C b h; simp [eqD] at h
  | succ d ih =>
    intro t x y vx vy C b h hc hx hy D hD
    obtain ⟨D, rfl⟩ : ∃ k, D = k + 1 := ⟨D - 1, by omega⟩
    have flds : ∀ (gs : List Field) (cs ds : List DV) (us vs : List Value) (C : Prop) (b : Bool), (∀ f ∈ gs, f.name ≠ "_") → eqAllD T (eqD T d) (gs.map fun f => (f.type, f.offset)) cs ds = some (C, b) → C → RelL G σ w cs us → RelL G σ w ds vs →
        (Op.eqFields D us.toArray vs.toArray gs).run P w = .ok b w := by
      intro gs
      induction gs with
      | nil => intro cs ds us vs C b _ h _ _ _; simp only [List.map_nil, eqAllD, Option.some.injEq, Prod.mk.injEq] at h; rw [← h.2]; simp [Op.eqFields]
      | cons q l ihl =>
        intro cs ds us vs C b hn h hc hu hv
        simp only [List.map_cons] at h
        unfold eqAllD at h
        split at h
        · rename_i C1 x C2 y h1 h2
          split at h
          · rename_i C3 r C4 r' h3 h4
            simp only [Option.some.injEq, Prod.mk.injEq] at h
            obtain ⟨rfl, rfl⟩ := h
            obtain ⟨c1, c2, c3, c4⟩ := hc
            obtain ⟨u, p1, r1⟩ := part_sound w hT hu h1 c1
            obtain ⟨v, p2, r2⟩ := part_sound w hT hv h2 c2
            have p3 := ih _ _ _ _ _ _ _ h3 c3 r1 r2 D (by omega)
            have p4 := ihl cs ds us vs C4 r' (fun f hf => hn f (by simp [hf])) h4 c4 hu hv
            rw [Op.eqFields, if_pos (hn q (by simp))]
            simp only [Sem.run_bind, p1, p2, p3, Result.andThen_ok, Sem.run_ite]
            cases r
            · simp
            · simp [p4]
          · simp at h
        · simp at h
    unfold eqD at h
    split at h
    · rename_i k0 k a k' b0 ht
      simp only [Option.some.injEq, Prod.mk.injEq] at h
      obtain ⟨rfl, rfl⟩ := h
      cases hx; cases hy
      subst hc
      rw [run_equalIn_int w D t k k0 a b0 (TOK.undP_int hT ht)]
      rfl
    · rename_i a b0 ht
      simp only [Option.some.injEq, Prod.mk.injEq] at h
      obtain ⟨rfl, rfl⟩ := h
      cases hx; cases hy
      exact run_equalIn_bool' w D t a b0 (TOK.undP_bool hT ht)
    · rename_i a b0 ht
      simp only [Option.some.injEq, Prod.mk.injEq] at h
      obtain ⟨rfl, rfl⟩ := h
      cases hx; cases hy
      rw [run_equalIn_string w D t _ _ (TOK.undP_str hT ht), ByteArray.toList_mk, ByteArray.toList_mk]
      congr 1
      by_cases e : a = b0
      · simp [e]
      · simp [e]
    · rename_i n e cs ds ht
      split at h
      · rename_i C' b' ha
        simp only [Option.some.injEq, Prod.mk.injEq] at h
        obtain ⟨rfl, rfl⟩ := h
        cases hx with
        | agg _ us hl1 hr1 =>
          cases hy with
          | agg _ vs hl2 hr2 =>
            obtain ⟨hne, hc⟩ := hc
            rw [List.range_eq_range'] at ha
            rw [Op.equalIn]
            simp only [Sem.run_bind, TOK.und_array hT w ht, Result.andThen_ok, TOK.size hT w hne]
            simp only [Std.Legacy.Range.forIn_eq_forIn_range', Std.Legacy.Range.size, Nat.sub_zero, Nat.add_one_sub_one, Nat.div_one]
            generalize List.range' 0 n = is at ha
            clear ht
            induction is generalizing C' b' with
            | nil =>
              simp only [List.map_nil, eqAllD, Option.some.injEq, Prod.mk.injEq] at ha
              rw [← ha.2]
              simp
            | cons q l ihl =>
              simp only [List.map_cons] at ha
              unfold eqAllD at ha
              split at ha
              · rename_i C1 x C2 y h1 h2
                split at ha
                · rename_i C3 r C4 r' h3 h4
                  simp only [Option.some.injEq, Prod.mk.injEq] at ha
                  obtain ⟨rfl, rfl⟩ := ha
                  obtain ⟨c1, c2, c3, c4⟩ := hc
                  obtain ⟨u, p1, r1⟩ := part_sound w hT ⟨hl1, hr1⟩ h1 c1
                  obtain ⟨v, p2, r2⟩ := part_sound w hT ⟨hl2, hr2⟩ h2 c2
                  have p3 := ih _ _ _ _ _ _ _ h3 c3 r1 r2 D (by omega)
                  have p4 := ihl C4 r' c4 h4
                  simp only [List.forIn_cons, Sem.run_bind, p1, p2, p3, Result.andThen_ok, Sem.run_ite]
                  cases r
                  · simp
                  · simp only [Bool.not_true, Bool.false_eq_true, if_false, Sem.run_pure, Result.andThen_ok, Bool.true_and]
                    exact p4
                · simp at ha
              · simp at ha
      · simp at h
    · rename_i fs cs ds ht
      split at h
      · rename_i C' b' ha
        simp only [Option.some.injEq, Prod.mk.injEq] at h
        obtain ⟨rfl, rfl⟩ := h
        cases hx with
        | agg _ us hl1 hr1 =>
          cases hy with
          | agg _ vs hl2 hr2 =>
            obtain ⟨i, dd, _, hu, hr, _, _, _, he⟩ := hT t ⟨_, rfl, by rw [ht]; simp⟩
            obtain ⟨s1, s2, gs, s3, s4⟩ := he hc.1
            rw [hu] at s3
            injection s3 with s3
            subst s3
            rw [ht] at hr
            obtain ⟨gs', hg', hfs⟩ := hr
            injection hg' with hg'
            subst hg'
            have hf : P.fieldsOf t = gs := by simp [Program.fieldsOf, hu]
            rw [run_equalIn_struct w D t _ _ (by rw [hf]; exact hu) s1, hf]
            exact flds gs.toList cs ds us vs C' b' s4 (by rw [hfs]; exact ha) hc.2 ⟨hl1, hr1⟩ ⟨hl2, hr2⟩
      · simp at h
    · simp at h

theorem eqTop_guard (hT : TOK P T) {t : TypeId} (h : eqTop T t) : P.eqGuardType P.depth t = false := by
  unfold eqTop at h
  split at h
  · rename_i fs ht
    obtain ⟨i, dd, _, hu, hr, _, _, _, he⟩ := hT t ⟨_, rfl, by rw [ht]; simp⟩
    exact (he h).2.1
  · rename_i n e ht
    obtain ⟨dd, hu, hr⟩ := TOK.undP hT ht (by simp)
    simp only [TyRel] at hr
    subst hr
    obtain ⟨k, hk⟩ : ∃ k, P.depth = k + 1 + 1 := ⟨2 * (P.types.size + Made.depth), rfl⟩
    rw [hk]
    unfold Program.eqGuardType
    rw [hu]
    simp only
    unfold Program.eqGuardType
    cases he : (T e).ty with
    | int k => rw [TOK.undP_int hT he]
    | bool => rw [TOK.undP_bool hT he]
    | str => rw [TOK.undP_str hT he]
    | _ => rw [he] at h; simp [Ty.plain] at h
  · exact h.elim

theorem run_eql_agg (t : TypeId) (xs ys : Array Value) {b : Bool} (h : (Op.equalIn 10000 t (.agg xs) (.agg ys)).run P w = .ok b w) : (binOp .eql t (.agg xs) (.agg ys)).run P w = .ok (.bool b) w := by
  rw [run_eql_struct, h]; rfl
theorem run_neq_agg (t : TypeId) (xs ys : Array Value) {b : Bool} (h : (Op.equalIn 10000 t (.agg xs) (.agg ys)).run P w = .ok b w) : (binOp .neq t (.agg xs) (.agg ys)).run P w = .ok (.bool (!b)) w := by
  rw [run_neq_struct, h]; rfl

theorem run_equalIn_ptr (d : Nat) (t e : TypeId) (a : Option Addr) (h : P.underlying t = some (.pointer e)) : (Op.equalIn (d + 1) t (.pointer a) (.pointer none)).run P w = .ok a.isNone w := by
  cases a <;> simp [Op.equalIn, run_underlying h]
theorem run_equalIn_nils (d : Nat) (t e : TypeId) (a : Option Addr) (n c : Nat) (h : P.underlying t = some (.slice e)) : (Op.equalIn (d + 1) t (.slice a n c) (.slice none 0 0)).run P w = .ok a.isNone w := by
  cases a <;> simp [Op.equalIn, run_underlying h]
theorem run_eql_ptr (t e : TypeId) (a : Option Addr) (h : P.underlying t = some (.pointer e)) : (binOp .eql t (.pointer a) (.pointer none)).run P w = .ok (.bool a.isNone) w := by
  simp only [binOp]
  simp [Op.equal, Op.maxDepth, run_equalIn_ptr w 9999 t e a h]
theorem run_neq_ptr (t e : TypeId) (a : Option Addr) (h : P.underlying t = some (.pointer e)) : (binOp .neq t (.pointer a) (.pointer none)).run P w = .ok (.bool (!a.isNone)) w := by
  simp only [binOp]
  simp [Op.equal, Op.maxDepth, run_equalIn_ptr w 9999 t e a h]
theorem run_eql_nils (t e : TypeId) (a : Option Addr) (n c : Nat) (h : P.underlying t = some (.slice e)) : (binOp .eql t (.slice a n c) (.slice none 0 0)).run P w = .ok (.bool a.isNone) w := by
  simp only [binOp]
  simp [Op.equal, Op.maxDepth, run_equalIn_nils w 9999 t e a n c h]
theorem guard_ptr (op : BinOp) (t : TypeId) (x y : Operand) (a b : Option Addr) : (eqGuard op t x y (.pointer a) (.pointer b)).run P w = .ok () w := by cases op <;> rfl
theorem guard_sl (op : BinOp) (t : TypeId) (x y : Operand) (a b : Option Addr) (n c m k : Nat) : (eqGuard op t x y (.slice a n c) (.slice b m k)).run P w = .ok () w := by cases op <;> rfl

theorem Quiet.cmp (hT : TOK P T) {σ : Store} {slots : List DV} {o : Oper} {C : Prop} {d : DV} (h : cmpD T slots o.op = some (C, d)) (hc : C) : Quiet P σ slots o d := by
  intro w0 G a w K Qr hr hK
  have fin : ∀ v, (execOp a.eval o).run P w = .ok (.value v) w → RelV G σ w d v → o.wp P a w K Qr := by
    intro v hv hd
    simp only [Oper.wp, hv, Oper.upon]
    exact hK v G w hr.2.2 (Ext.refl _ _ _) hd
  have ptr : ∀ {t e : TypeId}, (T t).ty = .ptr e → P.underlying t = some (.pointer e) := by
    intro t e ht
    obtain ⟨dd, hu, hr⟩ := TOK.undP hT ht (by simp)
    simp only [TyRel] at hr
    rw [hu, hr]
  unfold cmpD at h
  split at h
  · rename_i t x y t2 ho
    have hxv := get_rel w hr.2.1 x
    have hyv := get_rel w hr.2.1 y
    split at h
    · rename_i cs ds hx hy
      split at h
      · rename_i C' b he
        simp only [Option.some.injEq, Prod.mk.injEq] at h; obtain ⟨rfl, rfl⟩ := h
        rw [hx] at hxv; rw [hy] at hyv
        have hq := eqD_sound w hT _ _ _ _ _ _ _ _ he hc.2 hxv hyv 10000 (by omega)
        generalize hxe : a.eval x = vx at hxv hq
        generalize hye : a.eval y = vy at hyv hq
        cases hxv; cases hyv
        refine fin _ ?_ (.bool b)
        simp only [execOp, ho, hxe, hye, Sem.run_bind, run_eqGuard_agg w _ t x y _ _ (eqTop_guard hT hc.1), Result.andThen_ok, run_eql_agg w t _ _ hq]
        rfl
      · simp at h
    all_goals first
      | (simp at h; done)
      | (rename_i hx hy
         simp only [Option.some.injEq, Prod.mk.injEq] at h; obtain ⟨rfl, rfl⟩ := h
         obtain ⟨e, ht⟩ := hc
         rw [hx] at hxv; rw [hy] at hyv
         generalize hxe : a.eval x = vx at hxv
         generalize hye : a.eval y = vy at hyv
         cases hxv; cases hyv
         refine fin _ ?_ (.bool _)
         simp only [execOp, ho, hxe, hye, Sem.run_bind, guard_ptr, Result.andThen_ok, run_eql_ptr w t e _ (ptr ht)]
         rfl)
  · rename_i t x y t2 ho
    have hxv := get_rel w hr.2.1 x
    have hyv := get_rel w hr.2.1 y
    split at h
    · rename_i cs ds hx hy
      split at h
      · rename_i C' b he
        simp only [Option.some.injEq, Prod.mk.injEq] at h; obtain ⟨rfl, rfl⟩ := h
        rw [hx] at hxv; rw [hy] at hyv
        have hq := eqD_sound w hT _ _ _ _ _ _ _ _ he hc.2 hxv hyv 10000 (by omega)
        generalize hxe : a.eval x = vx at hxv hq
        generalize hye : a.eval y = vy at hyv hq
        cases hxv; cases hyv
        refine fin _ ?_ (.bool _)
        simp only [execOp, ho, hxe, hye, Sem.run_bind, run_eqGuard_agg w _ t x y _ _ (eqTop_guard hT hc.1), Result.andThen_ok, run_neq_agg w t _ _ hq]
        rfl
      · simp at h
    all_goals first
      | (simp at h; done)
      | (rename_i hx hy
         simp only [Option.some.injEq, Prod.mk.injEq] at h; obtain ⟨rfl, rfl⟩ := h
         obtain ⟨e, ht⟩ := hc
         rw [hx] at hxv; rw [hy] at hyv
         generalize hxe : a.eval x = vx at hxv
         generalize hye : a.eval y = vy at hyv
         cases hxv; cases hyv
         refine fin _ ?_ (.bool _)
         simp only [execOp, ho, hxe, hye, Sem.run_bind, guard_ptr, Result.andThen_ok, run_neq_ptr w t e _ (ptr ht)]
         rfl)
  · simp at h

theorem Effect.isnil (hT : TOK P T) {s : St} {o : Oper} {t t2 e : TypeId} {x y : Operand} {xs : List DV} (ho : o.op = .binOp .eql t x y t2) (hx : get s.slots x = .sl xs ∨ get s.slots x = .slt xs) (hy : y = .const (.slice none 0 0)) (ht : (T t).ty = .slice e) :
    Effect P s o (fun r σ' => (∃ b, r = .bool b ∧ (xs ≠ [] → b = false)) ∧ σ' = s.σ) := by
  intro w0 G a w hr
  have hxv := get_rel w hr.2.1 x
  have hu := TOK.undP_slice hT ht
  obtain ⟨A, n, c, hxe, hA⟩ : ∃ A n c, a.eval x = .slice A n c ∧ (xs ≠ [] → A ≠ none) := by
    rcases hx with hx | hx <;> rw [hx] at hxv <;> generalize hxe : a.eval x = vx at hxv <;> cases hxv <;> rename_i hA _ _ _ <;>
      exact ⟨_, _, _, rfl, fun h => by rcases hA with hA | ⟨hA, _⟩ <;> simp_all⟩
  refine ⟨.value (.bool A.isNone), w, _, .bool A.isNone, s.σ, G, ?_, .inl rfl, ⟨⟨_, rfl, fun h => ?_⟩, rfl⟩, hr.2.2, Ext.refl _ _ _, .bool _⟩
  · have hye : a.eval y = .slice none 0 0 := by rw [hy]; rfl
    simp only [execOp, ho, hxe, hye, Sem.run_bind, guard_sl, Result.andThen_ok, run_eql_nils w t e _ _ _ hu]
    rfl
  · cases A with
    | none => exact absurd rfl (hA h)
    | some _ => rfl
end
end Go.Val
end

section
namespace Go.Val
open Go.RowKit
set_option linter.unusedSimpArgs false
set_option linter.unusedVariables false

def makeQ (T : TypeId → TI) (slots : List DV) (op : Op) : Option (Prop × DV) :=
 match op with
 | .makeSlice t x y =>
  match (T t).ty with
  | .slice e =>
   match get slots x with
   | .int _ n =>
    match get slots y with
    | .int _ m => some (((T e).ty ≠ .other ∧ 0 < (T e).size ∧ (T e).zero.cells.size = (T e).size ∧ 0 < (T e).bytes) ∧ 0 ≤ n ∧ n ≤ m ∧ m * (T e).bytes ≤ 281474976710656, .sl (List.replicate n.toNat (ofVal (T e).zero)))
    | _ => none
   | _ => none
  | _ => none
 | _ => none

section
variable {P : Program} {T : TypeId → TI}
theorem make_run (hT : TOK P T) {w : World} {a : Act} {o : Oper} {x y : Operand} {t e : TypeId} (ho : o.op = .makeSlice t x y) (ht : (T t).ty = .slice e) (hne : (T e).ty ≠ .other) (hs0 : 0 < (T e).size) (hb : 0 < (T e).bytes)
  {k k' : IntKind} {n m : Int} (hxe : a.eval x = .int k n) (hye : a.eval y = .int k' m) (h0 : 0 ≤ n) (hnm : n ≤ m) (hsz : m * (T e).bytes ≤ 281474976710656) :
  (execOp a.eval o).run P w = .ok (.value (.slice (some ⟨w.heap.size, 0, none⟩) n.toNat m.toNat)) (w.alloc (.cells ((Array.range (m.toNat * (T e).size)).map fun i => (T e).zero.cells[i % (T e).zero.cells.size]!) e)) := by
 have hm1 : m ≤ m * (T e).bytes := by
  have : m * 1 ≤ m * (T e).bytes := Int.mul_le_mul_of_nonneg_left (by omega) (by omega)
  omega
 have hwn : IntKind.i64.wrap n = n := wrap_nat h0 (by omega)
 have hwm : IntKind.i64.wrap m = m := wrap_nat (by omega) (by omega)
 obtain ⟨i, hi, _, hib, _⟩ := TOK.info hT w hne
 have hlarge : ¬ ((decide (m < 0) || decide ((i.bytes : Int) * m > 2 ^ 48)) || decide (n < 0) || decide (n > m)) = true := by
  rw [hib]
  rw [Int.mul_comm] at hsz
  simp
  omega
 by_cases hm0 : m.toNat = 0
 ·simp only [execOp, ho, hxe, hye, Instr.makeSlice, asInt, asIntOf, Sem.run_bind, Sem.run_pure, TOK.und_slice hT w ht, Result.andThen_ok, hi, hwn, hwm, Sem.run_ite, hlarge, if_false, run_askRoom, TOK.size hT w hne, newRow, run_newObj, hm0, Nat.zero_mul, if_true]
  have hz0 : ∀ f : Nat → Value, Array.map f (Array.range 0) = #[] := fun f => by apply Array.eq_empty_of_size_eq_zero; simp
  simp [hz0]
 ·have hne0 : ¬ m.toNat * (T e).size = 0 := by
   have : 0 < m.toNat * (T e).size := Nat.mul_pos (by omega) hs0
   omega
  simp only [execOp, ho, hxe, hye, Instr.makeSlice, asInt, asIntOf, Sem.run_bind, Sem.run_pure, TOK.und_slice hT w ht, Result.andThen_ok, hi, hwn, hwm, Sem.run_ite, hlarge, if_false, run_askRoom, TOK.size hT w hne, newRow, run_newObj, hne0, TOK.zero hT w hne, World.alloc_eq]
  simp

theorem Quiet.make (hT : TOK P T) {σ : Store} {slots : List DV} {o : Oper} {C : Prop} {d : DV} (h : makeQ T slots o.op = some (C, d)) (hc : C) : Quiet P σ slots o d := by
 unfold makeQ at h
 split at h
 ·rename_i t x y ho
  split at h
  ·rename_i e ht
   split at h
   ·rename_i k n hx
    split at h
    ·rename_i k' m hy
     simp only [Option.some.injEq, Prod.mk.injEq] at h
     obtain ⟨rfl, rfl⟩ := h
     obtain ⟨⟨hne, hs0, hzc, hb⟩, h0, hnm, hsz⟩ := hc
     intro w0 G a w K Qr hr hK
     have hxv := get_rel w hr.2.1 x
     have hyv := get_rel w hr.2.1 y
     rw [hx] at hxv
     rw [hy] at hyv
     generalize hxe : a.eval x = vx at hxv
     generalize hye : a.eval y = vy at hyv
     cases hxv; cases hyv
     have hrun := make_run (P := P) hT (w := w) (a := a) ho ht hne hs0 hb hxe hye h0 hnm hsz
     have hcl : (ofVal (T e).zero).cells.length = (T e).size := by
      have := (ofVal_cells (G := G) (σ := σ) (w := w) (T e).zero).1
      rw [← this, Array.length_toList, hzc]
     simp only [Oper.wp, hrun, Oper.upon]
     obtain ⟨k1, k2⟩ := hr.2.2.newImm (.cells ((Array.range (m.toNat * (T e).size)).map fun i => (T e).zero.cells[i % (T e).zero.cells.size]!) e)
     refine hK _ _ _ k1 k2 ?_
     have hl : (List.replicate n.toNat (ofVal (T e).zero)).length = n.toNat := List.length_replicate
     have := RelV.sl_mk (A := some ⟨w.heap.size, 0, none⟩) (G := { G with own := updN G.own w.heap.size .imm }) (σ := σ) (w := w.alloc (.cells ((Array.range (m.toNat * (T e).size)).map fun i => (T e).zero.cells[i % (T e).zero.cells.size]!) e))
      (xs := List.replicate n.toNat (ofVal (T e).zero)) (c := m.toNat) (st := (T e).size) (by rw [hl]; omega)
      (by intro x hx; rw [List.eq_of_mem_replicate hx]; exact hcl)
      (.inr ⟨w.heap.size, 0, rfl, by simp, MemAt.alloc w (fun i d hd => by
       have hd0 := hd
       obtain ⟨_, hlt⟩ := flat_replicate_get hd
       rw [hcl] at hlt
       have hle : n.toNat * (T e).size ≤ m.toNat * (T e).size := Nat.mul_le_mul_right _ (by omega)
       refine ⟨_, Array.getElem?_eq_getElem (by simpa using Nat.lt_of_lt_of_le hlt hle), ?_⟩
       exact zeros_rel (m := m.toNat) hd0 (by rw [hzc]; exact Array.getElem?_eq_getElem _))⟩)
     rw [hl] at this
     exact this
    ·simp at h
   ·simp at h
  ·simp at h
 ·simp at h
end

section
variable {P : Program} {T : TypeId → TI} {σ : Store}
theorem StoreRel.frzS {w0 : World} {G : Gh} {w : World} (hS : StoreRel w0 G σ w) {id : Nat} {R : Row} (hR : σ.rows[id]? = some (some R)) :
  ∃ G', StoreRel w0 G' ⟨σ.rows.set id none, σ.boxes, σ.maps⟩ w ∧ Ext G σ w G' ⟨σ.rows.set id none, σ.boxes, σ.maps⟩ w ∧ (∀ d v, RelV G σ w d v → RelV G' ⟨σ.rows.set id none, σ.boxes, σ.maps⟩ w (frz id R.xs d) v) := by
 obtain ⟨G', h1, h2, h3⟩ := StoreRel.freeze (s := ⟨[], σ⟩) hS hR
 have x : Ext G' (St.freeze ⟨[], σ⟩ id R.xs).σ w G' ⟨σ.rows.set id none, σ.boxes, σ.maps⟩ w :=
  ⟨fun k hk => ⟨hk, rfl⟩, by simp [St.freeze], by simp [St.freeze], Nat.le_refl _, fun i R' hi hR' => ⟨R', hR', rfl, Nat.le_refl _, fun _ => rfl⟩, fun _ _ => rfl, fun _ _ => rfl, fun k hk => ⟨hk, rfl⟩⟩
 refine ⟨G', ⟨h1.below, h1.lt, h1.trk, fun i R hR => (h1.rows i R hR).keep x rfl (fun _ hk => ⟨hk, rfl⟩), fun i B0 hB0 => ?_, fun i M hM => (h1.maps i M hM).keep x rfl (fun _ hk => ⟨hk, rfl⟩)⟩, h2.trans x, fun d v hd => (h3 d v hd).ext x⟩
 simp only at hB0
 have hfx : (St.freeze ⟨[], σ⟩ id R.xs).σ.boxes[i]? = some (some { B0 with cs := B0.cs.map (frz1 id R.xs) }) := by
  simp only [St.freeze, List.getElem?_map, hB0, Option.map_some]
 obtain ⟨k1, arr, k2, _⟩ := h1.boxes i _ hfx
 obtain ⟨_, arr', k3, k4⟩ := hS.boxes i B0 hB0
 rw [h2.boxB i (List.getElem?_eq_some_iff.1 hB0).1] at k1 k2
 refine ⟨by rw [(h2.trans x).boxB i (List.getElem?_eq_some_iff.1 hB0).1]; exact k1, arr', ?_, k4.ext (h2.trans x)⟩
 rw [(h2.trans x).boxB i (List.getElem?_eq_some_iff.1 hB0).1]
 exact k3
end
def appCall (c : Call) : Option (Operand × Operand × TypeId × TypeId) :=
 match c.callee with
 | .builtin .append =>
  match c.args.toList with
  | [x, y] =>
   match c.argTypes.toList with
   | [t, t2] => some (x, y, t, t2)
   | _ => none
  | _ => none
 | _ => none

section
variable {P : Program} {T : TypeId → TI} {σ : Store}
theorem appCall_some {c : Call} {x y : Operand} {t t2 : TypeId} (h : appCall c = some (x, y, t, t2)) : c.callee = .builtin .append ∧ c.args = #[x, y] ∧ c.argTypes = #[t, t2] := by
 obtain ⟨cal, args, ts⟩ := c
 unfold appCall at h
 simp only at h
 split at h
 ·split at h
  ·rename_i x' y' ha
   split at h
   ·rename_i t' t2' ht
    simp only [Option.some.injEq, Prod.mk.injEq] at h
    obtain ⟨rfl, rfl, rfl, rfl⟩ := h
    refine ⟨rfl, ?_, ?_⟩
    ·exact Array.toList_inj.1 ha
    ·exact Array.toList_inj.1 ht
   ·simp at h
  ·simp at h
 ·simp at h


theorem Quiet.of_row {slots : List DV} {o : Oper} {xs : List DV} {e : TypeId} {st : Nat} (h : Effect P ⟨slots, σ⟩ o (one (.row σ.rows.length xs.length) { σ with rows := σ.rows ++ [some ⟨xs, e, st⟩] }))
  (hn : ∀ w0 G a w, RelS w0 G ⟨slots, σ⟩ a w → nameds σ.rows.length σ.boxes.length σ.maps.length xs = true) : Quiet P σ slots o (.sl xs) := by
 intro w0 G a w K Qr hr hK
 obtain ⟨nv, w', v, r, σ', G', he, hv, ⟨rfl, rfl⟩, hS', hE', hd⟩ := h w0 G a w hr
 have hR : ({ σ with rows := σ.rows ++ [some ⟨xs, e, st⟩] } : Store).rows[σ.rows.length]? = some (some ⟨xs, e, st⟩) := by simp
 obtain ⟨G2, h1, h2, h3⟩ := StoreRel.frzS hS' hR
 have hd2 := h3 _ _ hd
 have hfz : frz σ.rows.length xs (.row σ.rows.length xs.length) = .sl xs := by simp [frz]
 simp only [hfz] at hd2
 have htr : (⟨(σ.rows ++ [some (⟨xs, e, st⟩ : Row)]).set σ.rows.length none, σ.boxes, σ.maps⟩ : Store).trunc σ.rows.length σ.boxes.length σ.maps.length = σ := by
  simp [Store.trunc]
 have hSt := h1.trunc (r := σ.rows.length) (b := σ.boxes.length) (m := σ.maps.length) (by simp) (Nat.le_refl _) (Nat.le_refl _) (by rw [htr]; exact hr.2.2.names)
 have hEt := (hE'.trans h2).trunc
 have hvt := hd2.trunc (r := σ.rows.length) (b := σ.boxes.length) (m := σ.maps.length) (by simp) (Nat.le_refl _) (Nat.le_refl _) (by simp only [DV.named]; exact hn w0 G a w hr)
 rw [htr] at hSt hEt hvt
 have key := hK v G2 w' hSt hEt hvt
 rcases hv with rfl | ⟨rfl, rfl⟩
 ·simp only [Oper.wp, he, Oper.upon]; exact key
 ·simp only [Oper.wp, he, Oper.upon]; exact key

def appQ (T : TypeId → TI) (σ : Store) (slots : List DV) (op : Op) : Option (Prop × DV) :=
 match op with
 | .call c =>
  match appCall c with
  | some (x, y, t, t2) =>
   match (T t).ty with
   | .slice e =>
    match get slots x with
    | .slt xs =>
     match srcD T σ t2 (get slots y) with
     | some (C, ys) => some (((T e).ty ≠ .other ∧ 0 < (T e).size ∧ (T e).zero.cells.size = (T e).size ∧ 0 < (T e).bytes) ∧ C ∧ (∀ x ∈ xs, x.cells.length = (T e).size) ∧ (xs = [] ∨ ys ≠ []) ∧ (∀ x ∈ ys, x.cells.length = (T e).size) ∧
       (xs.length + ys.length) * (T e).bytes ≤ 140737488355328, .sl (xs ++ ys))
     | none => none
    | _ => none
   | _ => none
  | none => none
 | _ => none
theorem Quiet.app (hT : TOK P T) {slots : List DV} {o : Oper} {C : Prop} {d : DV} (h : appQ T σ slots o.op = some (C, d)) (hc : C) : Quiet P σ slots o d := by
 unfold appQ at h
 split at h
 ·rename_i c ho
  split at h
  ·rename_i x y t t2 hcall
   obtain ⟨a1, a2, a3⟩ := appCall_some hcall
   split at h
   ·rename_i e he
    split at h
    ·rename_i xs hx
     split at h
     ·rename_i C1 ys hy
      simp only [Option.some.injEq, Prod.mk.injEq] at h
      obtain ⟨rfl, rfl⟩ := h
      obtain ⟨⟨h1, h2, h3, h4⟩, h5, h6, h7, h8, h9⟩ := hc
      have hE := Effect.appendNew (s := ⟨slots, σ⟩) hT ho a1 a2 a3 hx he h1 h2 h3 h4 hy h5 h6 h8 h7 h9
      rw [← List.length_append] at hE
      refine Quiet.of_row hE (fun w0 G a w hr => ?_)
      rw [nameds_append, Bool.and_eq_true]
      constructor
      ·have hv := (get_rel w hr.2.1 x).named
       simp only [hx, DV.named] at hv
       exact hv
      ·obtain ⟨new, hn1, _⟩ := AppSrc.ofSrc (s := ⟨slots, σ⟩) (y := y) (ty := o.type) hT he h1 h4 hy h5 h8 w0 G a w hr
       have := hn1.names
       rwa [nameds_flat] at this
     ·simp at h
    ·simp at h
   ·simp at h
  ·simp at h
 ·simp at h
end
end Go.Val
end

section
namespace Go.Val
open Go.RowKit
set_option linter.unusedSimpArgs false
set_option linter.unusedVariables false

def convR (T : TypeId → TI) (σ : Store) (slots : List DV) (op : Op) : Option (Prop × DV) :=
 match op with
 | .convert src dst x =>
  match (T dst).ty with
  | .str =>
   match get slots x with
   | .row id len =>
    match σ.rows[id]? with
    | some (some R) => some ((∃ e, (T src).ty = .slice e ∧ (T e).ty = .int .u8) ∧ R.xs.length = len ∧ R.xs.all DV.isByte = true, .str (unbytes R.xs))
    | _ => none
   | _ => none
  | _ => none
 | _ => none
def stepA (T : TypeId → TI) (σ : Store) (slots : List DV) (op : Op) : Option (Prop × DV) :=
 match convR T σ slots op with
 | some r => some r
 | none =>
 match makeQ T slots op with
 | some r => some r
 | none =>
 match appQ T σ slots op with
 | some r => some r
 | none =>
 match newD T σ slots op with
 | some r => some r
 | none =>
  match cmpD T slots op with
  | some r => some r
  | none => stepQ T σ slots op
theorem Quiet.convR {P : Program} {T : TypeId → TI} (hT : TOK P T) {σ : Store} {slots : List DV} {o : Oper} {C : Prop} {d : DV} (h : convR T σ slots o.op = some (C, d)) (hc : C) : Quiet P σ slots o d := by
 unfold Go.Val.convR at h
 split at h
 ·rename_i src dst x ho
  split at h
  ·rename_i hd
   split at h
   ·rename_i id len hx
    split at h
    ·rename_i R hR
     simp only [Option.some.injEq, Prod.mk.injEq] at h
     obtain ⟨rfl, rfl⟩ := h
     obtain ⟨⟨e, hs, he⟩, hl, hb⟩ := hc
     intro w0 G a w K Qr hr hK
     have hv := get_rel w hr.2.1 x
     rw [hx] at hv
     generalize hev : a.eval x = ve at hv
     cases hv with
     | row _ _ _ hid hle hv =>
      have hv := hv R hR hl
      obtain ⟨A, c, hA, hm⟩ := row_mem w hr.2.2 hR
      rw [hA] at hv
      have h1 := bytes_string (G := G) (σ := σ) w hT hs he hd hb (A := A) (c := c) (hm.imp (fun h => h) (fun ⟨g, a1, a2⟩ => ⟨g, 0, a1, a2⟩))
      simp only [Oper.wp, execOp, ho, hev, hv, Sem.run_bind, h1, Result.andThen_ok, Sem.run_pure, Oper.upon]
      exact hK _ G w hr.2.2 (Ext.refl _ _ _) (.str _)
    ·simp at h
   ·simp at h
  ·simp at h
 ·simp at h
theorem Quiet.stepA {P : Program} {T : TypeId → TI} (hT : TOK P T) {σ : Store} {slots : List DV} {o : Oper} {C : Prop} {d : DV} (h : stepA T σ slots o.op = some (C, d)) (hc : C) : Quiet P σ slots o d := by
 unfold Go.Val.stepA at h
 split at h
 ·rename_i r hr
  simp only [Option.some.injEq] at h
  subst h
  exact Quiet.convR hT hr hc
 ·split at h
  ·rename_i r hr
   simp only [Option.some.injEq] at h
   subst h
   exact Quiet.make hT hr hc
  ·split at h
   ·rename_i r hr
    simp only [Option.some.injEq] at h
    subst h
    exact Quiet.app hT hr hc
   ·split at h
    ·rename_i r hr
     simp only [Option.some.injEq] at h
     subst h
     exact Quiet.new hT hr hc
    ·split at h
     ·rename_i r hr
      simp only [Option.some.injEq] at h
      subst h
      exact Quiet.cmp hT hr hc
     ·exact Quiet.step hT h hc

def onD (dsts : List (Option Tmp)) (slots : List DV) (g : Option (Nat × Bool)) : Option Bool :=
 match g with
 | none => some true
 | some (j, want) =>
  match dsts.getD j none with
  | some t => litG want (slots.getD t .undef)
  | none => none

def storeD (T : TypeId → TI) (σ : Store) (t : TypeId) (p x : DV) : Option (Prop × Store) :=
 match p with
 | .ptr b off =>
  match σ.boxes[b]? with
  | some (some B) => some (((T t).ty ≠ .other ∧ FlatD σ x ∧ x.cells.length = (T t).size ∧ off + (T t).size ≤ B.cs.length), { σ with boxes := σ.boxes.set b (some ⟨B.ty, over B.cs off x.cells⟩) })
  | _ => none
 | .rp id len i off =>
  match σ.rows[id]? with
  | some (some R) => some ((R.xs.length = len ∧ i < len ∧ (T t).ty ≠ .other ∧ FlatD σ x ∧ x.cells.length = (T t).size ∧ 0 < (T t).size ∧ off + (T t).size ≤ R.st), { σ with rows := σ.rows.set id (some { R with xs := R.xs.set i ((R.xs.getD i .undef).over off x.cells) }) })
  | _ => none
 | _ => none

def allocOf : Op → Option TypeId
 | .alloc e => some e
 | _ => none
def storeOf : Op → Option (TypeId × Operand × Operand)
 | .store t p x => some (t, p, x)
 | _ => none

def runL (T : TypeId → TI) (dsts : List (Option Tmp)) : List Oper → List DV → Store → Prop → Prop × List DV × Store × List Oper
 | [], s, σ, C => (C, s, σ, [])
 | o :: l, s, σ, C =>
  match onD dsts s o.guard with
  | none => (C, s, σ, o :: l)
  | some false =>
   match o.dst with
   | some t => runL T dsts l (s.set t .undef) σ C
   | none => runL T dsts l s σ C
  | some true =>
   match o.dst with
   | none =>
    match storeOf o.op with
    | none => (C, s, σ, o :: l)
    | some (t, p, x) =>
     match storeD T σ t (get s p) (get s x) with
     | some (C', σ') => runL T dsts l s σ' (C ∧ C')
     | none => (C, s, σ, o :: l)
   | some t =>
    match allocOf o.op with
    | some e => runL T dsts l (s.set t (.ptr σ.boxes.length 0)) { σ with boxes := σ.boxes ++ [some ⟨e, (ofVal (T e).zero).cells⟩] } (C ∧ (T e).ty ≠ .other)
    | none =>
     match stepA T σ s o.op with
     | some (C', d) => runL T dsts l (s.set t d) σ (C ∧ C')
     | none => (C, s, σ, o :: l)

section
variable {P : Program} {T : TypeId → TI} {dsts : List (Option Tmp)} {l rest : List Oper} {slots slots' : List DV} {σ σ' : Store} {Q : Exit → St → Prop}

theorem onD_wanted {ops : Array Oper} (ho : ops.toList.map (·.dst) = dsts) {o : Oper} {b : Bool} (h : onD dsts slots o.guard = some b) : wantedD ops slots o = some b := by
 cases hg : o.guard with
 | none => rw [hg] at h; simp only [onD, Option.some.injEq] at h; simp only [wantedD, hg, h]
 | some g =>
  obtain ⟨j, want⟩ := g
  rw [hg] at h
  simp only [onD] at h
  unfold wantedD
  have e : (ops[j]?).bind (·.dst) = dsts.getD j none := by
   rw [← ho, List.getD_eq_getElem?_getD, List.getElem?_map, Array.getElem?_toList]
   cases ops[j]? <;> rfl
  simp only [hg, e]
  split at h
  ·rename_i t ht
   rw [ht]
   exact h
  ·simp at h

end
end Go.Val
end

section
namespace Go.Val
open Go.RowKit
set_option linter.unusedSimpArgs false
set_option linter.unusedVariables false

theorem app_len {α : Type} (l m : List α) : (l ++ m).length = l.length + m.length := List.length_append
theorem app_get {α : Type} (l m : List α) (k : Nat) : (l ++ m)[l.length + k]? = m[k]? := by rw [List.getElem?_append_right (by omega)]; congr 1; omega
theorem app_get0 {α : Type} (l m : List α) : (l ++ m)[l.length]? = m[0]? := app_get l m 0
theorem app_set {α : Type} (l m : List α) (k : Nat) (x : α) : (l ++ m).set (l.length + k) x = l ++ m.set k x := by rw [List.set_append_right _ _ (by omega)]; congr 2; omega
theorem app_set0 {α : Type} (l m : List α) (x : α) : (l ++ m).set l.length x = l ++ m.set 0 x := app_set l m 0 x

/-! ### zeros -/
/-! ### numbers -/
theorem wrap_i64_id {n : Int} (h0 : -9223372036854775808 ≤ n) (h1 : n < 9223372036854775808) : IntKind.i64.wrap n = n := by rw [IntKind.wrap_i64]; omega
theorem wrap_u64_id {n : Int} (h0 : 0 ≤ n) (h1 : n < 18446744073709551616) : IntKind.u64.wrap n = n := by
 rw [IntKind.wrap_u64]; omega
theorem wrap_u32_id {n : Int} (h0 : 0 ≤ n) (h1 : n < 4294967296) : IntKind.u32.wrap n = n := by rw [IntKind.wrap_u32']; omega
abbrev u32 (w : BitVec 32) : DV := .int .u32 (w.toNat : Int)
abbrev u8 (b : UInt8) : DV := .int .u8 (b.toNat : Int)
abbrev i64 (n : Nat) : DV := .int .i64 (n : Int)

theorem p32 : ((2 ^ 32 : Nat) : Int) = 4294967296 := by decide
theorem p8 : ((2 ^ 8 : Nat) : Int) = 256 := by decide
theorem ofInt_toNat {k : Nat} (w : BitVec k) : BitVec.ofInt k (w.toNat : Int) = w := by
 apply BitVec.eq_of_toNat_eq
 simp [BitVec.toNat_ofInt]

theorem wrap_u32_bv (w : BitVec 32) : IntKind.u32.wrap (w.toNat : Int) = (w.toNat : Int) := by
 rw [IntKind.wrap_u32']; have := w.isLt; omega
theorem wrap_u8_bv (w : BitVec 8) : IntKind.u8.wrap (w.toNat : Int) = (w.toNat : Int) := by
 rw [IntKind.wrap_u8']; have := w.isLt; omega
theorem u32_xor (a b : BitVec 32) : bitsD .xor .u32 (a.toNat : Int) (b.toNat : Int) = ((a ^^^ b).toNat : Int) := by
 show IntKind.u32.wrap (BitVec.ofInt 32 (a.toNat : Int) ^^^ BitVec.ofInt 32 (b.toNat : Int)).toNat = _
 rw [ofInt_toNat, ofInt_toNat]
 exact wrap_u32_bv _
theorem u32_mulc (c : Nat) (hc : c < 4294967296) (b : BitVec 32) : IntKind.u32.wrap ((c : Int) * (b.toNat : Int)) = ((BitVec.ofNat 32 c * b).toNat : Int) := by
 rw [IntKind.wrap_u32', BitVec.toNat_mul, BitVec.toNat_ofNat, Nat.mod_eq_of_lt (show c < 2 ^ 32 from hc), Int.natCast_emod, Int.natCast_mul, p32]
theorem u32_shl (a : BitVec 32) (k : Nat) : IntKind.u32.wrap ((a.toNat : Int) * 2 ^ k) = ((a <<< k).toNat : Int) := by
 rw [IntKind.wrap_u32', BitVec.toNat_shiftLeft, Nat.shiftLeft_eq, Int.natCast_emod, Int.natCast_mul, p32, Int.natCast_pow]
 rfl
theorem u32_shr (a : BitVec 32) (k : Nat) : Int.fdiv (a.toNat : Int) (2 ^ k) = ((a >>> k).toNat : Int) := by
 rw [BitVec.toNat_ushiftRight, Nat.shiftRight_eq_div_pow, Int.fdiv_eq_ediv_of_nonneg _ (Int.pow_nonneg (by omega)), Int.natCast_ediv, Int.natCast_pow]
 rfl
theorem u32_ofNat (n : Nat) : IntKind.u32.wrap (n : Int) = ((BitVec.ofNat 32 n).toNat : Int) := by
 rw [IntKind.wrap_u32', BitVec.toNat_ofNat, Int.natCast_emod, p32]
def low8 (w : BitVec 32) : UInt8 := UInt8.ofBitVec (w.setWidth 8)
theorem u32_low (w : BitVec 32) : IntKind.u8.wrap (w.toNat : Int) = ((low8 w).toNat : Int) := by
 show _ = (((w.setWidth 8).toNat : Nat) : Int)
 rw [IntKind.wrap_u8', BitVec.toNat_setWidth, Int.natCast_emod, p8]
theorem u8_xor (a b : UInt8) : bitsD .xor .u8 (a.toNat : Int) (b.toNat : Int) = ((a ^^^ b).toNat : Int) := by
 show IntKind.u8.wrap (BitVec.ofInt 8 (a.toBitVec.toNat : Int) ^^^ BitVec.ofInt 8 (b.toBitVec.toNat : Int)).toNat = _
 rw [ofInt_toNat, ofInt_toNat]
 exact wrap_u8_bv _
theorem u8_u32 (b : UInt8) : IntKind.u32.wrap (b.toNat : Int) = ((b.toBitVec.setWidth 32).toNat : Int) := by
 rw [wrap_u32_id (by omega) (by have := b.toNat_lt; omega), BitVec.toNat_setWidth, Nat.mod_eq_of_lt (by have := b.toBitVec.isLt; omega)]
 rfl
theorem u32_not (w : BitVec 32) : bitsD .xor .u32 4294967295 (w.toNat : Int) = ((~~~w).toNat : Int) := by
 have h : (4294967295 : Int) = ((BitVec.allOnes 32).toNat : Int) := by decide
 rw [h, u32_xor, BitVec.allOnes_xor]

/-! ### what is there -/
theorem Solid_int (σ : Store) (k : IntKind) (n : Int) : Solid σ (.int k n) = True := rfl
theorem Solid_bool (σ : Store) (b : Bool) : Solid σ (.bool b) = True := rfl
theorem Solid_str (σ : Store) (s : List UInt8) : Solid σ (.str s) = True := rfl
theorem Solid_agg (σ : Store) (s : List DV) : Solid σ (.agg s) = True := rfl
theorem Solid_tup (σ : Store) (s : List DV) : Solid σ (.tup s) = True := rfl
theorem Solid_sl (σ : Store) (s : List DV) : Solid σ (.sl s) = True := rfl
theorem Solid_slt (σ : Store) (s : List DV) : Solid σ (.slt s) = True := rfl
theorem Solid_cp (σ : Store) (s : List DV) : Solid σ (.cp s) = True := rfl
theorem Solid_ptr (σ : Store) (b o : Nat) : Solid σ (.ptr b o) = True := rfl
theorem Solid_nilp (σ : Store) : Solid σ .nilp = True := rfl
theorem Cell1_int (σ : Store) (k : IntKind) (n : Int) : Cell1 σ (.int k n) = True := rfl
theorem Cell1_bool (σ : Store) (b : Bool) : Cell1 σ (.bool b) = True := rfl
theorem Cell1_str (σ : Store) (s : List UInt8) : Cell1 σ (.str s) = True := rfl
theorem Cell1_sl (σ : Store) (s : List DV) : Cell1 σ (.sl s) = True := rfl
theorem Cell1_slt (σ : Store) (s : List DV) : Cell1 σ (.slt s) = True := rfl
theorem Cell1_cp (σ : Store) (s : List DV) : Cell1 σ (.cp s) = True := rfl
theorem Cell1_ptr (σ : Store) (b o : Nat) : Cell1 σ (.ptr b o) = True := rfl
theorem Cell1_nilp (σ : Store) : Cell1 σ .nilp = True := rfl
theorem FlatD_int (σ : Store) (k : IntKind) (n : Int) : FlatD σ (.int k n) = True := by simp [FlatD, Solid, DV.cells, Cell1]
theorem FlatD_bool (σ : Store) (b : Bool) : FlatD σ (.bool b) = True := by simp [FlatD, Solid, DV.cells, Cell1]
theorem FlatD_str (σ : Store) (b : List UInt8) : FlatD σ (.str b) = True := by simp [FlatD, Solid, DV.cells, Cell1]
theorem FlatD_sl (σ : Store) (b : List DV) : FlatD σ (.sl b) = True := by simp [FlatD, Solid, DV.cells, Cell1]
theorem FlatD_slt (σ : Store) (b : List DV) : FlatD σ (.slt b) = True := by simp [FlatD, Solid, DV.cells, Cell1]
theorem FlatD_ptr (σ : Store) (b o : Nat) : FlatD σ (.ptr b o) = True := by simp [FlatD, Solid, DV.cells, Cell1]
theorem Solid_mp (σ : Store) (n : Nat) : Solid σ (.mp n) = True := rfl
theorem Cell1_mp (σ : Store) (n : Nat) : Cell1 σ (.mp n) = True := rfl
theorem FlatD_mp (σ : Store) (n : Nat) : FlatD σ (.mp n) = True := by simp [FlatD, Solid, DV.cells, Cell1]
theorem Solid_it (σ : Store) (n : Nat) : Solid σ (.it n) = True := rfl
theorem Cell1_it (σ : Store) (n : Nat) : Cell1 σ (.it n) = True := rfl
theorem FlatD_it (σ : Store) (n : Nat) : FlatD σ (.it n) = True := by simp [FlatD, Solid, DV.cells, Cell1]
theorem Solid_cm (σ : Store) (a b : List DV) : Solid σ (.cm a b) = True := rfl
theorem Cell1_cm (σ : Store) (a b : List DV) : Cell1 σ (.cm a b) = True := rfl
theorem FlatD_cm (σ : Store) (a b : List DV) : FlatD σ (.cm a b) = True := by simp [FlatD, Solid, DV.cells, Cell1]
theorem Solid_fn (σ : Store) (f : Fn) (a b : List DV) : Solid σ (.fn f a b) = True := rfl
theorem Cell1_fn (σ : Store) (f : Fn) (a b : List DV) : Cell1 σ (.fn f a b) = True := rfl
theorem FlatD_fn (σ : Store) (f : Fn) (a b : List DV) : FlatD σ (.fn f a b) = True := by simp [FlatD, Solid, DV.cells, Cell1]
theorem Solid_nilfn (σ : Store)  : Solid σ (.nilfn) = True := rfl
theorem Cell1_nilfn (σ : Store)  : Cell1 σ (.nilfn) = True := rfl
theorem FlatD_nilfn (σ : Store)  : FlatD σ (.nilfn) = True := by simp [FlatD, Solid, DV.cells, Cell1]
theorem cells_nilfn : (DV.nilfn).cells = [.nilfn] := rfl
theorem Cell1_row (σ : Store) (i l : Nat) : Cell1 σ (.row i l) = Solid σ (.row i l) := rfl
theorem FlatD_row (σ : Store) (i l : Nat) : FlatD σ (.row i l) = Solid σ (.row i l) := by
 simp only [FlatD, Solid, DV.cells, List.mem_singleton, forall_eq, Cell1, and_self]
theorem FlatD_agg (σ : Store) (cs : List DV) : FlatD σ (.agg cs) = ∀ c ∈ cs, Cell1 σ c := by simp [FlatD, Solid, DV.cells]
theorem all_nil (p : DV → Prop) : (∀ c ∈ ([] : List DV), p c) = True := by simp
theorem all_cons (p : DV → Prop) (d : DV) (l : List DV) : (∀ c ∈ d :: l, p c) = (p d ∧ ∀ c ∈ l, p c) := by simp
theorem ex_agg (a : Array Value) : (∃ z, Value.agg a = Value.agg z) = True := by simp
theorem over_all (cs ds : List DV) (h : ds.length = cs.length) : over cs 0 ds = ds := by simp [over, h]

theorem over_one (cs : List DV) (i : Nat) (d : DV) (h : i < cs.length) : over cs i [d] = cs.set i d := by
 rw [over, List.set_eq_take_append_cons_drop, if_pos h, List.length_singleton, List.append_assoc]
 rfl

theorem over_zero_nil (cs : List DV) : over cs 0 ([] : List DV) = cs := by simp [over]
theorem over_zero_cons (c d : DV) (cs ds : List DV) : over (c :: cs) 0 (d :: ds) = d :: over cs 0 ds := by simp [over]
theorem over_cons_succ (c : DV) (cs ds : List DV) (k : Nat) : over (c :: cs) (k + 1) ds = c :: over cs k ds := by
 simp only [over, List.take_succ_cons, List.cons_append]
 rw [show k + 1 + ds.length = (k + ds.length) + 1 by omega, List.drop_succ_cons]

theorem bytes_len (l : List UInt8) : (bytes l).length = l.length := by simp [bytes]
theorem bytes_get {l : List UInt8} {j : Nat} {c : UInt8} (h : l[j]? = some c) : (bytes l).getD j .undef = .int .u8 c.toNat := by
 simp [bytes, List.getD_eq_getElem?_getD, h]
theorem map_get {α : Type} {l : List α} {f : α → DV} {j : Nat} {c : α} (h : l[j]? = some c) : (l.map f).getD j .undef = f c := by
 simp [List.getD_eq_getElem?_getD, h]
theorem bytes_take (l : List UInt8) (n : Nat) : (bytes l).take n = bytes (l.take n) := by simp [bytes, List.map_take]
theorem bytes_drop (l : List UInt8) (n : Nat) : (bytes l).drop n = bytes (l.drop n) := by simp [bytes, List.map_drop]
theorem bytes_append (l m : List UInt8) : bytes (l ++ m) = bytes l ++ bytes m := by simp [bytes]
theorem bytes_cell1 (l : List UInt8) : ∀ x ∈ bytes l, x.cells.length = 1 := by
 intro x hx; simp only [bytes, List.mem_map] at hx; obtain ⟨b, _, rfl⟩ := hx; rfl
theorem bytes_all (l : List UInt8) : (bytes l).all DV.isByte = true := by
 rw [List.all_eq_true]; intro x hx; simp only [bytes, List.mem_map] at hx; obtain ⟨b, _, rfl⟩ := hx
 have := b.toNat_lt
 simp [DV.isByte]
 try omega
theorem unbytes_bytes (l : List UInt8) : unbytes (bytes l) = l := by
 simp only [unbytes, bytes, List.map_map]
 rw [List.map_congr_left (g := id)]
 ·simp
 ·intro b _
  simp [DV.byte]
theorem bytes_named (l : List UInt8) (r b m : Nat) : nameds r b m (bytes l) = true := by
 rw [nameds_iff]; intro x hx; simp only [bytes, List.mem_map] at hx; obtain ⟨b, _, rfl⟩ := hx; rfl

theorem rep_1 {α : Type} (a : α) : List.replicate 1 a = [a] := rfl
theorem rep_2 {α : Type} (a : α) : List.replicate 2 a = [a, a] := rfl
theorem rep_3 {α : Type} (a : α) : List.replicate 3 a = [a, a, a] := rfl
theorem rep_4 {α : Type} (a : α) : List.replicate 4 a = [a, a, a, a] := rfl
theorem rep_5 {α : Type} (a : α) : List.replicate 5 a = [a, a, a, a, a] := rfl
theorem rep_6 {α : Type} (a : α) : List.replicate 6 a = [a, a, a, a, a, a] := rfl
theorem rep_8 {α : Type} (a : α) : List.replicate 8 a = [a, a, a, a, a, a, a, a] := rfl
theorem rep_9 {α : Type} (a : α) : List.replicate 9 a = [a, a, a, a, a, a, a, a, a] := rfl
theorem flat_nil : flat [] = [] := rfl
theorem flat_cons (x : DV) (xs : List DV) : flat (x :: xs) = x.cells ++ flat xs := rfl
theorem over4 {a b c d : DV} {ds : List DV} (h : ds.length = 4) : over [a, b, c, d] 0 ds = ds := over_all _ _ h

theorem cells_int (k : IntKind) (n : Int) : (DV.int k n).cells = [.int k n] := rfl
theorem cells_bool (b : Bool) : (DV.bool b).cells = [.bool b] := rfl
theorem cells_str (s : List UInt8) : (DV.str s).cells = [.str s] := rfl
theorem cells_agg (cs : List DV) : (DV.agg cs).cells = cs := rfl
theorem cells_sl (cs : List DV) : (DV.sl cs).cells = [.sl cs] := rfl
theorem cells_slt (cs : List DV) : (DV.slt cs).cells = [.slt cs] := rfl
theorem cells_row (i n : Nat) : (DV.row i n).cells = [.row i n] := rfl
theorem cells_ptr (i n : Nat) : (DV.ptr i n).cells = [.ptr i n] := rfl
theorem cells_cp (cs : List DV) : (DV.cp cs).cells = [.cp cs] := rfl
theorem cells_nilp : DV.nilp.cells = [.nilp] := rfl
theorem cells_mp (i : Nat) : (DV.mp i).cells = [.mp i] := rfl
theorem cells_it (i : Nat) : (DV.it i).cells = [.it i] := rfl
theorem cells_cm (a b : List DV) : (DV.cm a b).cells = [.cm a b] := rfl
theorem cells_fn (f : Fn) (a b : List DV) : (DV.fn f a b).cells = [.fn f a b] := rfl
theorem cells_byte (l : List UInt8) (n : Nat) : ∀ x ∈ (bytes l).take n, x.cells = [x] := by
 intro x hx
 have := List.mem_of_mem_take hx
 simp only [bytes, List.mem_map] at this
 obtain ⟨b, _, rfl⟩ := this
 rfl

theorem unbytes_nil : unbytes [] = [] := rfl
theorem unbytes_cons (k : IntKind) (b : UInt8) (l : List DV) : unbytes (.int k (b.toNat : Int) :: l) = b :: unbytes l := by
 simp [unbytes, DV.byte]
theorem isByte_cons (b : UInt8) (l : List DV) : (DV.int .u8 (b.toNat : Int) :: l).all DV.isByte = l.all DV.isByte := by
 have := b.toNat_lt
 simp [DV.isByte]
 try omega
theorem isByte_nil : ([] : List DV).all DV.isByte = true := rfl
theorem ofVal_str0 : ofVal (.string ⟨#[]⟩) = .str [] := rfl

theorem Solid_rowK (l r : List (Option Row)) (k : Nat) (bx : List (Option Box)) (m : List (Option (List (DV × DV)))) (n : Nat) : Solid ⟨l ++ r, bx, m⟩ (.row (l.length + k) n) = (match r[k]? with | some (some R) => R.xs.length = n | _ => False) := by
 simp only [Solid, app_get]
 cases h : r[k]? with
 | none => simp
 | some o => cases o <;> simp
theorem Solid_row0 (l r : List (Option Row)) (R : Row) (bx : List (Option Box)) (m : List (Option (List (DV × DV)))) (n : Nat) : Solid ⟨l ++ (some R :: r), bx, m⟩ (.row l.length n) = (R.xs.length = n) := by
 simp only [Solid, app_get0, List.getElem?_cons_zero, Option.some.injEq, exists_eq_left']
theorem tmod_nat (a b : Nat) : Int.tmod (a : Int) (b : Int) = ((a % b : Nat) : Int) := (Int.ofNat_tmod a b).symm
theorem tdiv_nat (a b : Nat) : Int.tdiv (a : Int) (b : Int) = ((a / b : Nat) : Int) := (Int.ofNat_tdiv a b).symm

/-! ### less said -/
theorem Le.undef (d : DV) : Le d .undef := fun _ _ _ v _ => .undef v
theorem Le.eq {d d' : DV} (h : d = d') : Le d d' := h ▸ Le.refl d

section
variable {P : Program} {T : TypeId → TI} {slots : List DV} {σ : Store} {Q : Exit → St → Prop}

theorem Rounds_le {c : Code} {n : Nat} {s : St} {t : List DV} (hle : LeL s.slots t) (h : Rounds P c Q n ⟨t, s.σ⟩) : Rounds P c Q n s := by
 cases n with
 | zero => exact h.elim
 | succ n => exact Ev_le hle h

def RoundQ (I : Nat → List DV → Store → Prop) (n i : Nat) (Q : Exit → St → Prop) : Exit → St → Prop
 | .normal, s => i < n ∧ ∃ t, LeL s.slots t ∧ I (i + 1) t s.σ
 | e, s => Q e s

theorem Ev_iter {c : Code} (I : Nat → List DV → Store → Prop) (n : Nat) {t : List DV} (hle : LeL slots t) (h0 : I 0 t σ)
  (h : ∀ i slots σ, i ≤ n → I i slots σ → Ev P c ⟨slots, σ⟩ (RoundQ I n i Q)) : Ev P (.loop c) ⟨slots, σ⟩ Q := by
 refine Ev_loop (n + 1) ?_
 have key : ∀ k i slots σ, i + k = n → I i slots σ → Rounds P c Q (k + 1) ⟨slots, σ⟩ := by
  intro k
  induction k with
  | zero =>
   intro i slots σ hi hI
   refine Ev.mono (h i slots σ (by omega) hI) ?_
   intro e s' h'
   cases e with
   | normal => obtain ⟨h1, _⟩ := h'; omega
   | _ => exact h'
  | succ k ih =>
   intro i slots σ hi hI
   refine Ev.mono (h i slots σ (by omega) hI) ?_
   intro e s' h'
   cases e with
   | normal => obtain ⟨_, t, h1, h2⟩ := h'; exact Rounds_le h1 (ih (i + 1) t s'.σ (by omega) h2)
   | _ => exact h'
 exact Rounds_le hle (key n 0 t σ (by omega) h0)
end
end Go.Val
end
