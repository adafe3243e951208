/- Conversions, values built, lengths; one function for all operations without a trace, and that the machine does what it says. -/
import Derived.Test.YtloeeiamgaljoaaVOps3
namespace Go.Val
open Go.RowKit
set_option linter.unusedSimpArgs false
set_option linter.unusedVariables false

/-- A constant of the program's text as data. -/
def ofVal0 : Value → DV
  | .int k n => .int k n
  | .bool b => .bool b
  | .string s => .str s.data.toList
  | .slice none 0 0 => .slt []
  | .pointer none => .nilp
  | .nilFunc => .nilfn
  | _ => .undef
def ofVal : Value → DV
  | .agg cs => .agg (cs.toList.map ofVal0)
  | .int k n => .int k n
  | .bool b => .bool b
  | .string s => .str s.data.toList
  | .slice none 0 0 => .slt []
  | .pointer none => .nilp
  | .nilFunc => .nilfn
  | _ => .undef

def get (slots : List DV) : Operand → DV
  | .tmp t => slots.getD t .undef
  | .const v => ofVal v
  | .func f => .fn (.func f) [] []
  | .global _ => .undef

/-- A value that is there: no handle that is overtaken. -/
def Solid (σ : Store) : DV → Prop
  | .undef => False
  | .row id len => ∃ R, σ.rows[id]? = some (some R) ∧ R.xs.length = len
  | .rp id len _ _ => ∃ R, σ.rows[id]? = some (some R) ∧ R.xs.length = len
  | _ => True

/-- Cells written over. -/
def over {α : Type} (cs : List α) (off : Nat) (ds : List α) : List α := cs.take off ++ ds ++ cs.drop (off + ds.length)

def fillD (T : TypeId → TI) (place : Nat → Option (Nat × Nat)) (σ : Store) (cells : List DV) : List (Nat × DV) → Option (Prop × List DV)
  | [] => some (True, cells)
  | (i, d) :: rest =>
    match place i with
    | none => none
    | some (off, size) =>
      match fillD T place σ (over cells off d.cells) rest with
      | some (C, r) => some ((Solid σ d ∧ d.cells.length = size ∧ off + size ≤ cells.length) ∧ C, r)
      | none => none

def buildD (T : TypeId → TI) (σ : Store) (t : TypeId) (parts : List (Nat × DV)) : Option (Prop × DV) :=
  match (T t).ty with
  | .struct fs =>
    match fillD T (fun i => (fs[i]?).map fun f => (f.2, (T f.1).size)) σ (ofVal (T t).zero).cells parts with
    | some (C, cs) => some ((∀ f ∈ fs, (T f.1).ty ≠ .other) ∧ (∃ z, (T t).zero = .agg z) ∧ C, .agg cs)
    | none => none
  | .array n e =>
    match fillD T (fun i => some (i * (T e).size, (T e).size)) σ (ofVal (T t).zero).cells parts with
    | some (C, cs) => some ((T e).ty ≠ .other ∧ (∃ z, (T t).zero = .agg z) ∧ C, .agg cs)
    | none => none
  | _ => none

def lenD (T : TypeId → TI) (σ : Store) (t : TypeId) (x : DV) : Option (Prop × DV) :=
  match (T t).ty, x with
  | .slice _, .sl xs => some (True, .int .i64 xs.length)
  | .slice _, .slt xs => some (True, .int .i64 xs.length)
  | .slice _, .row id len => some (Solid σ (.row id len), .int .i64 len)
  | .str, .str s => some (True, .int .i64 s.length)
  | .map _ _, .mp id =>
    match σ.maps[id]? with
    | some (some M) => some (isIter M = false, .int .i64 M.length)
    | _ => none
  | .map _ _, .cm ks _ => some (True, .int .i64 ks.length)
  | _, _ => none

def arrayPtrD (T : TypeId → TI) (t : TypeId) (x : DV) : Option (Prop × DV) :=
  match (T t).ty, x with
  | .array n _, .sl xs => some (0 < n ∧ n ≤ xs.length, .cp (flat xs))
  | .array n _, .slt xs => some (0 < n ∧ n ≤ xs.length, .cp (flat xs))
  | _, _ => none

section
variable {P : Program} {T : TypeId → TI} {G : Gh} {σ : Store} (w : World)

theorem ofVal0_rel (v : Value) : RelV G σ w (ofVal0 v) v := by
  unfold ofVal0
  split
  · exact .int _ _
  · exact .bool _
  · rename_i s; have := RelV.str (G := G) (σ := σ) (w := w) s.data.toList; simpa using this
  · exact .slt [] none 0 0 0 0 (fun _ => Go.undef) rfl (.inl rfl) (by simp) (by simp [flat]) (by simp [flat])
  · exact .nilp
  · exact .nilfn
  · exact .undef _
theorem ofVal_rel (v : Value) : RelV G σ w (ofVal v) v := by
  unfold ofVal
  split
  · rename_i cs
    have := RelV.agg (G := G) (σ := σ) (w := w) (cs.toList.map ofVal0) cs.toList (by simp) (fun i c v hc hv => by
      simp [List.getElem?_map, hv] at hc
      exact hc ▸ ofVal0_rel w v)
    simpa using this
  · exact .int _ _
  · exact .bool _
  · rename_i s; have := RelV.str (G := G) (σ := σ) (w := w) s.data.toList; simpa using this
  · exact .slt [] none 0 0 0 0 (fun _ => Go.undef) rfl (.inl rfl) (by simp) (by simp [flat]) (by simp [flat])
  · exact .nilp
  · exact .nilfn
  · exact .undef _

theorem get_rel {slots : List DV} {a : Act} (h : RelL G σ w slots a.tmps.toList) (x : Operand) : RelV G σ w (get slots x) (a.eval x) := by
  cases x with
  | tmp t =>
    simp only [get, Act.eval, List.getD_eq_getElem?_getD]
    cases hs : slots[t]? with
    | none => exact .undef _
    | some d =>
      obtain ⟨v, hv, hr⟩ := h.get hs
      have : a.tmps.getD t Go.undef = v := by
        rw [Array.getElem?_toList] at hv
        simp [Array.getD_eq_getD_getElem?, hv]
      rw [this]; exact hr
  | const v => exact ofVal_rel w v
  | global g => exact .undef _
  | func f =>
    have := RelV.fn (G := G) (σ := σ) (w := w) (.func f) [] [] [] [] rfl (by simp) rfl (by simp)
    simpa [get, Act.eval] using this

theorem solid_cells {w0 : World} (hS : StoreRel w0 G σ w) {d : DV} {v : Value} (h : RelV G σ w d v) (hs : Solid σ d) : RelL G σ w d.cells v.cells.toList := by
  cases d with
  | undef => exact hs.elim
  | row i len =>
    obtain ⟨R, hR, hl⟩ := hs
    cases h with
    | row _ _ v hid hle hv =>
      have := hv R hR hl
      subst this
      obtain ⟨_, _, A, n, c, hA, _⟩ := hS.rows i R hR
      rw [hA]
      refine .cons ?_ .nil
      rw [← hA]
      exact .row i len _ hid hle (fun _ _ _ => rfl)
  | rp i len j off =>
    obtain ⟨R, hR, hl⟩ := hs
    have h' := h
    cases h with
    | rp _ _ _ _ v hid hle hv =>
      obtain ⟨g, n, c, _, rfl⟩ := hv R hR hl
      exact .cons h' .nil
  | _ => exact h.cells (by simp) (by simp) (by simp)

theorem unbytes_ints {xs : List DV} (h : xs.all DV.isByte = true) : xs.map DV.cells = xs.map (fun x => [x]) ∧
    ∀ (i : Nat) d, xs[i]? = some d → ∃ n : Int, d = .int .u8 n := by
  rw [List.all_eq_true] at h
  have key : ∀ x ∈ xs, ∃ n : Int, x = .int .u8 n := by
    intro x hx
    have := h x hx
    cases x <;> simp [DV.isByte] at this
    rename_i k n
    cases k <;> simp [DV.isByte] at this
    exact ⟨n, rfl⟩
  refine ⟨List.map_congr_left (fun x hx => by obtain ⟨n, rfl⟩ := key x hx; rfl), fun i d hd => key d (List.mem_of_getElem? hd)⟩

theorem flat_bytes {xs : List DV} (h : xs.all DV.isByte = true) : flat xs = xs := by
  simp only [flat, List.flatMap, (unbytes_ints h).1]
  induction xs with
  | nil => rfl
  | cons x xs ih => simp only [List.map_cons, List.flatten_cons]; rw [ih (by simp at h ⊢; exact h.2)]; rfl

def DV.num : DV → Int
  | .int _ n => n
  | _ => 0

theorem bytes_string (hT : TOK P T) {src dst e : TypeId} (hs : (T src).ty = .slice e) (he : (T e).ty = .int .u8) (hd : (T dst).ty = .str) {xs : List DV} (hb : xs.all DV.isByte = true)
    {A : Option Addr} {c : Nat} (hm : xs = [] ∨ ∃ b o, A = some ⟨b, o, none⟩ ∧ MemAt G σ w b o (flat xs)) :
    (convert src dst (.slice A xs.length c)).run P w = .ok (.string ⟨(unbytes xs).toArray⟩) w := by
  have hs' := TOK.undP_slice hT hs
  have he' := TOK.undP_int hT he
  have hd' := TOK.undP_str hT hd
  rcases hm with rfl | ⟨b, o, rfl, hm⟩
  · cases A with
    | none => rw [List.length_nil, run_convert_bytes_nil w src e hs' he' 0 c dst hd']; rfl
    | some a =>
      rw [List.length_nil, run_convert_bytes_string w src dst e _ 0 c hs' he' hd']
      simp [Conv.bytesToString, loadCells, loadCellsFrom]
      rfl
  · rw [flat_bytes hb] at hm
    have h := run_convert_bytes_arg w src e hs' he' b o xs.length c (xs.map DV.num) (by simp) (fun i hi => by
      obtain ⟨vs, hr, hv⟩ := hm
      obtain ⟨v, h1, h2⟩ := hr.get (List.getElem?_eq_getElem hi)
      obtain ⟨n, hn⟩ := (unbytes_ints hb).2 i _ (List.getElem?_eq_getElem hi)
      rw [hn] at h2
      cases h2
      rw [hv i _ h1]
      simp [List.getD_eq_getElem?_getD, List.getElem?_eq_getElem hi, hn, DV.num]) dst hd'
    rw [h]
    congr 3
    simp only [strOfNums, unbytes, List.map_map]
    congr 1
    congr 1
    apply List.map_congr_left
    intro x hx
    obtain ⟨i, hi⟩ := List.mem_iff_getElem?.1 hx
    obtain ⟨n, rfl⟩ := (unbytes_ints hb).2 i _ hi
    rfl

theorem convD_sound (hT : TOK P T) {src dst : TypeId} {x : DV} {vx : Value} {C : Prop} {d : DV} (hx : RelV G σ w x vx)
    (h : convD T src dst x = some (C, d)) (hc : C) : VRun P G σ w (convert src dst vx) d := by
  unfold convD at h
  split at h
  · rename_i k k' n hy
    simp only [Option.some.injEq, Prod.mk.injEq] at h; obtain ⟨rfl, rfl⟩ := h
    cases hx
    obtain ⟨ds, hs, _⟩ := TOK.und hT w rfl hc
    refine ⟨.int k (k.wrap n), ?_, .int _ _⟩
    simp only [convert, Sem.run_bind, hs, TOK.und_int hT w hy, Result.andThen_ok]
    simp [Conv.intToInt]
  · rename_i s hy
    simp only [Option.some.injEq, Prod.mk.injEq] at h; obtain ⟨rfl, rfl⟩ := h
    cases hx
    refine ⟨_, ?_, .str s⟩
    simp only [convert, Sem.run_bind, TOK.und_str hT w hc, TOK.und_str hT w hy, Result.andThen_ok]
    simp
  · rename_i xs hy
    simp only [Option.some.injEq, Prod.mk.injEq] at h; obtain ⟨rfl, rfl⟩ := h
    obtain ⟨⟨e, hs, he⟩, hb⟩ := hc
    obtain ⟨A, c, st, rfl, _, _, hm⟩ := hx.sl_mem
    exact ⟨_, bytes_string w hT hs he hy hb (hm.imp (fun h => h) (fun ⟨b, o, a1, _, a2⟩ => ⟨b, o, a1, a2⟩)), .str _⟩
  · rename_i xs hy
    simp only [Option.some.injEq, Prod.mk.injEq] at h; obtain ⟨rfl, rfl⟩ := h
    obtain ⟨⟨e, hs, he⟩, hb⟩ := hc
    obtain ⟨A, st, rfl, _, hm⟩ := hx.slt_mem
    exact ⟨_, bytes_string w hT hs he hy hb (hm.imp (fun h => h) (fun ⟨b, o, a1, _, a2⟩ => ⟨b, o, a1, a2⟩)), .str _⟩
  · simp at h

theorem lenD_sound (hT : TOK P T) {w0 : World} (hS : StoreRel w0 G σ w) {t ty : TypeId} {x : DV} {vx : Value} {C : Prop} {d : DV} (hx : RelV G σ w x vx)
    (h : lenD T σ t x = some (C, d)) (hc : C) : VRun P G σ w (Builtin.len_ #[t] ty #[vx]) d := by
  unfold lenD at h
  split at h
  · rename_i e xs hy
    simp only [Option.some.injEq, Prod.mk.injEq] at h; obtain ⟨rfl, rfl⟩ := h
    obtain ⟨A, c, st, rfl, _⟩ := hx.sl_mem
    exact ⟨_, by simp [Builtin.len_, TOK.und_slice hT w hy, goInt], .int _ _⟩
  · rename_i e xs hy
    simp only [Option.some.injEq, Prod.mk.injEq] at h; obtain ⟨rfl, rfl⟩ := h
    obtain ⟨A, st, rfl, _⟩ := hx.slt_mem
    exact ⟨_, by simp [Builtin.len_, TOK.und_slice hT w hy, goInt], .int _ _⟩
  · rename_i e i len hy
    simp only [Option.some.injEq, Prod.mk.injEq] at h; obtain ⟨rfl, rfl⟩ := h
    obtain ⟨R, hR, hl⟩ := hc
    cases hx with
    | row _ _ v hid hle hv =>
      have := hv R hR hl
      subst this
      obtain ⟨_, _, A, n, c, hA, hn, _⟩ := hS.rows i R hR
      rw [hA]
      refine ⟨_, by simp [Builtin.len_, TOK.und_slice hT w hy, goInt]; rfl, ?_⟩
      rw [hn, hl]
      exact .int _ _
  · rename_i s hy
    simp only [Option.some.injEq, Prod.mk.injEq] at h; obtain ⟨rfl, rfl⟩ := h
    cases hx
    have hz : (⟨s.toArray⟩ : ByteArray).size = s.length := by simp [ByteArray.size]
    exact ⟨_, by simp [Builtin.len_, TOK.und_str hT w hy, goInt, hz], .int _ _⟩
  · rename_i k e i hy
    split at h
    · rename_i M hM
      simp only [Option.some.injEq, Prod.mk.injEq] at h; obtain ⟨rfl, rfl⟩ := h
      cases hx
      obtain ⟨_, ⟨_, es, clock, hh, hz, _⟩ | ⟨_, _, _, _, _, _, _, _, _, rfl, _⟩⟩ := hS.maps i M hM
      rotate_left
      · cases hc
      refine ⟨.int .i64 M.length, ?_, .int _ _⟩
      simp [Builtin.len_, TOK.und_map hT w hy, goInt, getObj, Sem.run, hh, hz]
    · simp at h
  · rename_i k e ks vs hy
    simp only [Option.some.injEq, Prod.mk.injEq] at h; obtain ⟨rfl, rfl⟩ := h
    cases hx with
    | cm _ _ k clock es him hh h1 h2 =>
      refine ⟨.int .i64 ks.length, ?_, .int _ _⟩
      simp [Builtin.len_, TOK.und_map hT w hy, goInt, getObj, Sem.run, hh, h1]
  · simp at h

theorem arrayPtrD_sound (hT : TOK P T) {t : TypeId} {x : DV} {vx : Value} {C : Prop} {d : DV} (hx : RelV G σ w x vx)
    (h : arrayPtrD T t x = some (C, d)) (hc : C) : VRun P G σ w (Instr.arrayAt t vx) d := by
  unfold arrayPtrD at h
  split at h
  · rename_i n e xs hy
    simp only [Option.some.injEq, Prod.mk.injEq] at h; obtain ⟨rfl, rfl⟩ := h
    obtain ⟨A, c, st, rfl, _, _, hm⟩ := hx.sl_mem
    rcases hm with rfl | ⟨b, o, rfl, him, hm⟩
    · simp at hc; omega
    · refine ⟨_, ?_, RelV.cp_mk him hm⟩
      simp only [Instr.arrayAt, Sem.run_bind, TOK.und_array hT w hy, Result.andThen_ok]
      rw [if_neg (by omega)]
      rfl
  · rename_i n e xs hy
    simp only [Option.some.injEq, Prod.mk.injEq] at h; obtain ⟨rfl, rfl⟩ := h
    obtain ⟨A, st, rfl, _, hm⟩ := hx.slt_mem
    rcases hm with rfl | ⟨b, o, rfl, him, hm⟩
    · simp at hc; omega
    · refine ⟨_, ?_, RelV.cp_mk him hm⟩
      simp only [Instr.arrayAt, Sem.run_bind, TOK.und_array hT w hy, Result.andThen_ok]
      rw [if_neg (by omega)]
      rfl
  · simp at h
end
end Go.Val
