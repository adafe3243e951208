/- The operations that only read, on values as data: what each answers, and that the machine answers the same. -/
import Derived.Test.YtloeeiamgaljoaaVDef
import Derived.Laws.Cells
import Derived.Laws.Entries
import Derived.Laws.Rows
import Derived.Laws.Strings
import Derived.Laws.StructEq
import Derived.Lib.Strings
import Derived.Orders
namespace Go.Val
open Go.RowKit
set_option linter.unusedSimpArgs false
set_option linter.unusedVariables false

inductive Ty where
  | other
  | int (k : IntKind)
  | bool
  | str
  | ptr (e : TypeId)
  | slice (e : TypeId)
  | array (n : Nat) (e : TypeId)
  | struct (fs : List (TypeId × Nat))
  | map (k e : TypeId)
  | func

structure TI where
  ty : Ty
  size : Nat
  bytes : Nat
  zero : Value
  eqok : Bool := false

def TyRel : Ty → TypeDesc → Prop
  | .other, _ => False
  | .int k, d => d = .int k
  | .bool, d => d = .bool
  | .str, d => d = .string
  | .ptr e, d => d = .pointer e
  | .slice e, d => d = .slice e
  | .array n e, d => d = .array n e
  | .struct fs, d => ∃ gs, d = .struct gs ∧ gs.toList.map (fun f => (f.type, f.offset)) = fs
  | .map k e, d => d = .map k e
  | .func, d => ∃ p r v, d = .func p r v

/-- What the table says of a type is so. -/
def TOK (P : Program) (T : TypeId → TI) : Prop :=
  ∀ t, (∃ f, (T t).ty = f ∧ f ≠ .other) → ∃ i d, P.info? t = some i ∧ P.underlying t = some d ∧ TyRel (T t).ty d ∧ i.size = (T t).size ∧ i.bytes = (T t).bytes ∧ i.zero = some (T t).zero ∧
    ((T t).eqok = true → P.stoodInHeld t = false ∧ P.eqGuardType P.depth t = false ∧ ∃ gs, P.underlying t = some (.struct gs) ∧ ∀ f ∈ gs.toList, f.name ≠ "_")

def TI.isAgg (ti : TI) : Bool := match ti.ty with | .array .. | .struct .. => true | _ => false

theorem TOK.undP_bool {P : Program} {T : TypeId → TI} (hT : TOK P T) {t : TypeId} (h : (T t).ty = .bool) : P.underlying t = some .bool := by
  obtain ⟨i, d, _, hu, hr, _⟩ := hT t ⟨_, h, by simp⟩
  rw [h] at hr; simp only [TyRel] at hr; rw [hu, hr]
section
variable {P : Program} {T : TypeId → TI} (hT : TOK P T) (w : World)
include hT
theorem TOK.und {t : TypeId} {y : Ty} (h : (T t).ty = y) (hne : y ≠ .other) : ∃ d, (underlying t).run P w = .ok d w ∧ TyRel y d := by
  obtain ⟨i, d, _, hu, hr, _⟩ := hT t ⟨_, h, hne⟩
  exact ⟨d, run_underlying hu w, h ▸ hr⟩
theorem TOK.und_int {t : TypeId} {k : IntKind} (h : (T t).ty = .int k) : (underlying t).run P w = .ok (.int k) w := by
  obtain ⟨d, a, b⟩ := TOK.und hT w h (by simp); simp only [TyRel] at b; rw [a, b]
theorem TOK.und_bool {t : TypeId} (h : (T t).ty = .bool) : (underlying t).run P w = .ok .bool w := by
  obtain ⟨d, a, b⟩ := TOK.und hT w h (by simp); simp only [TyRel] at b; rw [a, b]
theorem TOK.und_str {t : TypeId} (h : (T t).ty = .str) : (underlying t).run P w = .ok .string w := by
  obtain ⟨d, a, b⟩ := TOK.und hT w h (by simp); simp only [TyRel] at b; rw [a, b]
theorem TOK.und_ptr {t e : TypeId} (h : (T t).ty = .ptr e) : (underlying t).run P w = .ok (.pointer e) w := by
  obtain ⟨d, a, b⟩ := TOK.und hT w h (by simp); simp only [TyRel] at b; rw [a, b]
theorem TOK.und_slice {t e : TypeId} (h : (T t).ty = .slice e) : (underlying t).run P w = .ok (.slice e) w := by
  obtain ⟨d, a, b⟩ := TOK.und hT w h (by simp); simp only [TyRel] at b; rw [a, b]
theorem TOK.und_array {t e : TypeId} {n : Nat} (h : (T t).ty = .array n e) : (underlying t).run P w = .ok (.array n e) w := by
  obtain ⟨d, a, b⟩ := TOK.und hT w h (by simp); simp only [TyRel] at b; rw [a, b]
theorem TOK.und_map {t k e : TypeId} (h : (T t).ty = .map k e) : (underlying t).run P w = .ok (.map k e) w := by
  obtain ⟨d, a, b⟩ := TOK.und hT w h (by simp); simp only [TyRel] at b; rw [a, b]
theorem TOK.und_struct {t : TypeId} {fs : List (TypeId × Nat)} (h : (T t).ty = .struct fs) : ∃ gs, (underlying t).run P w = .ok (.struct gs) w ∧ gs.toList.map (fun f => (f.type, f.offset)) = fs := by
  obtain ⟨d, a, b⟩ := TOK.und hT w h (by simp); simp only [TyRel] at b; obtain ⟨gs, rfl, e⟩ := b; exact ⟨gs, a, e⟩
theorem TOK.info {t : TypeId} (h : (T t).ty ≠ .other) : ∃ i, (typeInfo t).run P w = .ok i w ∧ i.size = (T t).size ∧ i.bytes = (T t).bytes ∧ i.zero = some (T t).zero := by
  obtain ⟨i, d, hi, _, _, a, b, c, _⟩ := hT t ⟨_, rfl, h⟩
  exact ⟨i, by simp [typeInfo, hi], a, b, c⟩
theorem TOK.size {t : TypeId} (h : (T t).ty ≠ .other) : (sizeOf t).run P w = .ok (T t).size w := by
  obtain ⟨i, a, b, _⟩ := TOK.info hT w h
  simp [sizeOf, a, b]
theorem TOK.zero {t : TypeId} (h : (T t).ty ≠ .other) : (zeroValue t).run P w = .ok (T t).zero w := by
  obtain ⟨i, a, _, _, b⟩ := TOK.info hT w h
  simp [zeroValue, a, b]
theorem TOK.isAgg {t : TypeId} (h : (T t).ty ≠ .other) : (Go.isAgg t).run P w = .ok (T t).isAgg w := by
  cases hy : (T t).ty with
  | other => exact absurd hy h
  | int k => simp [Go.isAgg, TOK.und_int hT w hy, TI.isAgg, hy]
  | bool => simp [Go.isAgg, TOK.und_bool hT w hy, TI.isAgg, hy]
  | str => simp [Go.isAgg, TOK.und_str hT w hy, TI.isAgg, hy]
  | ptr e => simp [Go.isAgg, TOK.und_ptr hT w hy, TI.isAgg, hy]
  | slice e => simp [Go.isAgg, TOK.und_slice hT w hy, TI.isAgg, hy]
  | array n e => simp [Go.isAgg, TOK.und_array hT w hy, TI.isAgg, hy]
  | struct fs => obtain ⟨gs, a, _⟩ := TOK.und_struct hT w hy; simp [Go.isAgg, a, TI.isAgg, hy]
  | map k e => simp [Go.isAgg, TOK.und_map hT w hy, TI.isAgg, hy]
  | func =>
    obtain ⟨d, a, b⟩ := TOK.und hT w hy (by simp)
    simp only [TyRel] at b
    obtain ⟨p, r, v, rfl⟩ := b
    simp [Go.isAgg, a, TI.isAgg, hy]
end

/-! ### numbers, texts -/
def bitsD (op : BinOp) (k : IntKind) (x y : Int) : Int :=
  match op with
  | .and => k.wrap (BitVec.ofInt k.bits x &&& BitVec.ofInt k.bits y).toNat
  | .or => k.wrap (BitVec.ofInt k.bits x ||| BitVec.ofInt k.bits y).toNat
  | .xor => k.wrap (BitVec.ofInt k.bits x ^^^ BitVec.ofInt k.bits y).toNat
  | _ => k.wrap (BitVec.ofInt k.bits x &&& ~~~BitVec.ofInt k.bits y).toNat

def intD (op : BinOp) (k : IntKind) (a b : Int) : Option (Prop × DV) :=
  match op with
  | .add => some (True, .int k (k.wrap (a + b)))
  | .sub => some (True, .int k (k.wrap (a - b)))
  | .mul => some (True, .int k (k.wrap (a * b)))
  | .quo => some (b ≠ 0, .int k (k.wrap (a.tdiv b)))
  | .rem => some (b ≠ 0, .int k (a.tmod b))
  | .and => some (True, .int k (bitsD .and k a b))
  | .or => some (True, .int k (bitsD .or k a b))
  | .xor => some (True, .int k (bitsD .xor k a b))
  | .andNot => some (True, .int k (bitsD .andNot k a b))
  | .eql => some (True, .bool (decide (a = b)))
  | .neq => some (True, .bool (!decide (a = b)))
  | .lss => some (True, .bool (decide (a < b)))
  | .leq => some (True, .bool (decide (a ≤ b)))
  | .gtr => some (True, .bool (decide (a > b)))
  | .geq => some (True, .bool (decide (a ≥ b)))
  | .shl | .shr => none

def strD (op : BinOp) (a b : List UInt8) : Option (Prop × DV) :=
  match op with
  | .add => some (a.length + b.length ≤ 9223372036854775807, .str (a ++ b))
  | .eql => some (True, .bool (decide (a = b)))
  | .neq => some (True, .bool (!decide (a = b)))
  | .lss => some (True, .bool (Op.bytesLess a b))
  | .leq => some (True, .bool (Op.bytesLess a b || decide (a = b)))
  | .gtr => some (True, .bool (!(Op.bytesLess a b || decide (a = b))))
  | .geq => some (True, .bool (!Op.bytesLess a b))
  | _ => none

def binD (T : TypeId → TI) (op : BinOp) (t : TypeId) (x y : DV) : Option (Prop × DV) :=
  match x, y with
  | .int k a, .int k' b =>
    match op with
    | .shl => some (0 ≤ b, .int k (k.wrap (a * 2 ^ (min b.toNat k.bits))))
    | .shr => some (0 ≤ b, .int k (a.fdiv (2 ^ (min b.toNat k.bits))))
    | op => match intD op k a b with
      | some (C, d) => some (k = k' ∧ C, d)
      | none => none
  | .str a, .str b => strD op a b
  | .bool a, .bool b =>
    match op with
    | .eql => some ((T t).ty = .bool, .bool (a == b))
    | .neq => some ((T t).ty = .bool, .bool (!(a == b)))
    | _ => none
  | _, _ => none


theorem Addr_add (b o j : Nat) : (⟨b, o, none⟩ : Addr).add j = ⟨b, o + j, none⟩ := by unfold Addr.add; split <;> simp_all

/-- What a run without a trace in the world answers. -/
def VRun (P : Program) (G : Gh) (σ : Store) (w : World) (s : Sem Value) (d : DV) : Prop := ∃ v, s.run P w = .ok v w ∧ RelV G σ w d v

section
variable {P : Program} {T : TypeId → TI} {G : Gh} {σ : Store} (w : World)
theorem intD_sound {op : BinOp} {k : IntKind} {a b : Int} {C : Prop} {d : DV} (h : intD op k a b = some (C, d)) (hc : C) (t : TypeId) :
    VRun P G σ w (binOp op t (.int k a) (.int k b)) d := by
  cases op <;> simp only [intD, Option.some.injEq, Prod.mk.injEq, reduceCtorEq] at h <;> obtain ⟨rfl, rfl⟩ := h
  case quo => exact ⟨_, by simp [binOp, Op.intDiv, show b ≠ 0 from hc], .int _ _⟩
  case rem => exact ⟨_, by simp [binOp, Op.intDiv, show b ≠ 0 from hc], .int _ _⟩
  case eql => exact ⟨_, by simp [binOp, Op.intCmp]; rfl, .bool _⟩
  case neq => exact ⟨_, by simp [binOp, Op.intCmp]; rfl, .bool _⟩
  all_goals first
    | exact ⟨_, by simp only [binOp, ne_eq, not_true_eq_false, if_false]; rfl, .int _ _⟩
    | exact ⟨_, by simp only [binOp, ne_eq, not_true_eq_false, if_false]; rfl, .bool _⟩

theorem strD_sound {op : BinOp} {a b : List UInt8} {C : Prop} {d : DV} (h : strD op a b = some (C, d)) (hc : C) (t : TypeId) :
    VRun P G σ w (binOp op t (.string ⟨a.toArray⟩) (.string ⟨b.toArray⟩)) d := by
  have e : (⟨a.toArray⟩ : ByteArray) ++ ⟨b.toArray⟩ = ⟨(a ++ b).toArray⟩ := by
    apply WideShapes.bytes_inj
    simp
  cases op <;> simp only [strD, Option.some.injEq, Prod.mk.injEq, reduceCtorEq] at h <;> obtain ⟨rfl, rfl⟩ := h
  case add =>
    refine ⟨.string ⟨(a ++ b).toArray⟩, ?_, .str _⟩
    have h1 : ¬ (((⟨a.toArray⟩ : ByteArray).size + (⟨b.toArray⟩ : ByteArray).size : Nat) : Int) > IntKind.i64.max := by
      have x1 : (⟨a.toArray⟩ : ByteArray).size = a.length := by simp [ByteArray.size]
      have x2 : (⟨b.toArray⟩ : ByteArray).size = b.length := by simp [ByteArray.size]
      rw [x1, x2]
      simp only [IntKind.max, IntKind.signed, IntKind.bits]
      simp only [if_true]
      have := hc
      omega
    simp only [binOp, Op.stringOp]
    rw [if_neg h1, e]
    rfl
  all_goals
    have hb : decide (a = b) = (a == b) := by rw [Bool.eq_iff_iff]; simp
    exact ⟨_, by simp only [binOp, Op.stringOp, ByteArray.toList_mk]; rfl, by first | exact .bool _ | (rw [hb]; exact .bool _)⟩

theorem binD_sound (hT : TOK P T) {op : BinOp} {t : TypeId} {x y : DV} {vx vy : Value} {C : Prop} {d : DV} (hx : RelV G σ w x vx) (hy : RelV G σ w y vy)
    (h : binD T op t x y = some (C, d)) (hc : C) : VRun P G σ w (binOp op t vx vy) d := by
  unfold binD at h
  split at h
  · rename_i k a k' b
    cases hx; cases hy
    split at h
    · simp only [Option.some.injEq, Prod.mk.injEq] at h
      obtain ⟨rfl, rfl⟩ := h
      exact ⟨_, by simp [binOp, Op.shift, show ¬ b < 0 by have := hc; omega], .int _ _⟩
    · simp only [Option.some.injEq, Prod.mk.injEq] at h
      obtain ⟨rfl, rfl⟩ := h
      exact ⟨_, by simp [binOp, Op.shift, show ¬ b < 0 by have := hc; omega], .int _ _⟩
    · split at h
      · rename_i C' d' hi
        simp only [Option.some.injEq, Prod.mk.injEq] at h
        obtain ⟨rfl, rfl⟩ := h
        obtain ⟨rfl, hc⟩ := hc
        exact intD_sound w hi hc t
      · simp at h
  · cases hx; cases hy
    exact strD_sound w h hc t
  · rename_i a b
    cases hx; cases hy
    split at h
    · simp only [Option.some.injEq, Prod.mk.injEq] at h
      obtain ⟨rfl, rfl⟩ := h
      exact ⟨.bool (a == b), by simp only [binOp]; simp [Op.equal, Op.maxDepth, run_equalIn_bool w 9999 t a b (TOK.undP_bool hT hc)], .bool _⟩
    · simp only [Option.some.injEq, Prod.mk.injEq] at h
      obtain ⟨rfl, rfl⟩ := h
      exact ⟨.bool (!(a == b)), by simp only [binOp]; simp [Op.equal, Op.maxDepth, run_equalIn_bool w 9999 t a b (TOK.undP_bool hT hc)], .bool _⟩
    · simp at h
  · simp at h
theorem binD_guard {op : BinOp} {t : TypeId} {x y : DV} {vx vy : Value} {C : Prop} {d : DV} (hx : RelV G σ w x vx) (hy : RelV G σ w y vy)
    (h : binD T op t x y = some (C, d)) (ox oy : Operand) : (eqGuard op t ox oy vx vy).run P w = .ok () w := by
  unfold binD at h
  split at h
  · cases hx; cases hy; cases op <;> rfl
  · cases hx; cases hy; cases op <;> rfl
  · cases hx; cases hy; cases op <;> rfl
  · simp at h
end

/-! ### the other operations without a trace -/
def unD (op : UnOp) (x : DV) : Option (Prop × DV) :=
  match op, x with
  | .neg, .int k n => some (True, .int k (k.wrap (0 - n)))
  | .xor, .int k n => some (True, .int k (bitsD .xor k (if k.signed then -1 else k.max) n))
  | .not, .bool b => some (True, .bool (!b))
  | _, _ => none

/-- Octets as values; values' octets. -/
def bytes (l : List UInt8) : List DV := l.map fun b => .int .u8 b.toNat
def DV.byte : DV → UInt8
  | .int _ n => UInt8.ofNat n.toNat
  | _ => 0
def DV.isByte : DV → Bool
  | .int .u8 n => decide (0 ≤ n ∧ n < 256)
  | _ => false
def unbytes (xs : List DV) : List UInt8 := xs.map DV.byte

def convD (T : TypeId → TI) (src dst : TypeId) (x : DV) : Option (Prop × DV) :=
  match (T dst).ty, x with
  | .int k, .int _ n => some ((T src).ty ≠ .other, .int k (k.wrap n))
  | .str, .str s => some ((T src).ty = .str, .str s)
  | .str, .sl xs => some ((∃ e, (T src).ty = .slice e ∧ (T e).ty = .int .u8) ∧ xs.all DV.isByte = true, .str (unbytes xs))
  | .str, .slt xs => some ((∃ e, (T src).ty = .slice e ∧ (T e).ty = .int .u8) ∧ xs.all DV.isByte = true, .str (unbytes xs))
  | _, _ => none

def fieldOff (T : TypeId → TI) (s : TypeId) (f : Nat) : Option (TypeId × Nat) :=
  match (T s).ty with
  | .struct fs => fs[f]?
  | _ => none

def partD (T : TypeId → TI) (t : TypeId) (cs : List DV) (off : Nat) : Option (Prop × DV) :=
  if (T t).isAgg then some ((T t).ty ≠ .other ∧ off + (T t).size ≤ cs.length, .agg ((cs.drop off).take (T t).size))
  else some ((T t).ty ≠ .other ∧ off < cs.length, cs.getD off .undef)

def fieldD (T : TypeId → TI) (s : TypeId) (x : DV) (f : Nat) : Option (Prop × DV) :=
  match x, fieldOff T s f with
  | .agg cs, some (t, off) => partD T t cs off
  | _, _ => none

def DV.shift (x : DV) (k : Nat) : Option DV :=
  match x with
  | .ptr b off => some (.ptr b (off + k))
  | .cp cs => some (.cp (cs.drop k))
  | .rp id len i off => some (.rp id len i (off + k))
  | _ => none

def fieldAddrD (T : TypeId → TI) (s : TypeId) (x : DV) (f : Nat) : Option (Prop × DV) :=
  match fieldOff T s f with
  | some (t, off) =>
    match x with
    | .ptr b o => some ((T t).ty ≠ .other ∧ (T t).size ≠ 0, .ptr b (o + off))
    | .cp cs => some ((T t).ty ≠ .other ∧ (T t).size ≠ 0, .cp (cs.drop off))
    | .rp id len i o => some ((T t).ty ≠ .other ∧ (T t).size ≠ 0, .rp id len i (o + off))
    | _ => none
  | none => none

def indexD (T : TypeId → TI) (t : TypeId) (x i : DV) : Option (Prop × DV) :=
  match (T t).ty, x, i with
  | .str, .str s, .int _ n => some (0 ≤ n ∧ n < s.length, .int .u8 (s.getD n.toNat 0).toNat)
  | .array len e, .agg cs, .int _ n =>
    match partD T e cs (n.toNat * (T e).size) with
    | some (C, d) => some (0 ≤ n ∧ n < len ∧ C, d)
    | none => none
  | _, _, _ => none

def indexAddrD (T : TypeId → TI) (σ : Store) (t : TypeId) (x i : DV) : Option (Prop × DV) :=
  match (T t).ty, x, i with
  | .slice e, .sl xs, .int _ n => some (0 ≤ n ∧ n < xs.length ∧ (T e).ty ≠ .other ∧ (xs.getD n.toNat .undef).cells.length = (T e).size, .cp (xs.getD n.toNat .undef).cells)
  | .slice e, .slt xs, .int _ n => some (0 ≤ n ∧ n < xs.length ∧ (T e).ty ≠ .other ∧ (xs.getD n.toNat .undef).cells.length = (T e).size, .cp (xs.getD n.toNat .undef).cells)
  | .slice e, .row id len, .int _ n =>
    match σ.rows[id]? with
    | some (some R) => some (0 ≤ n ∧ n < len ∧ R.xs.length = len ∧ (T e).ty ≠ .other ∧ R.st = (T e).size, .rp id len n.toNat 0)
    | _ => none
  | .array len e, .ptr b off, .int _ n => some (0 ≤ n ∧ n < len ∧ (T e).ty ≠ .other, .ptr b (off + n.toNat * (T e).size))
  | .array len e, .cp cs, .int _ n => some (0 ≤ n ∧ n < len ∧ (T e).ty ≠ .other, .cp (cs.drop (n.toNat * (T e).size)))
  | _, _, _ => none

def loadD (T : TypeId → TI) (σ : Store) (t : TypeId) (x : DV) : Option (Prop × DV) :=
  match x with
  | .cp cs => partD T t cs 0
  | .ptr b off =>
    match σ.boxes[b]? with
    | some (some B) => partD T t B.cs off
    | _ => none
  | .rp id len i off =>
    match σ.rows[id]? with
    | some (some R) =>
      match partD T t (R.xs.getD i .undef).cells off with
      | some (C, d) => some (R.xs.length = len ∧ i < len ∧ C, d)
      | none => none
    | _ => none
  | _ => none

def boundD (d : Option DV) (z : Nat) : Option Nat :=
  match d with
  | none => some z
  | some (.int _ n) => some n.toNat
  | _ => none
def boundOk (d : Option DV) : Prop :=
  match d with
  | some (.int _ n) => 0 ≤ n
  | _ => True

def sliceD (T : TypeId → TI) (t : TypeId) (x : DV) (lo hi mx : Option DV) : Option (Prop × DV) :=
  match (T t).ty, x, mx with
  | .str, .str s, none =>
    match boundD lo 0, boundD hi s.length with
    | some l, some h => some (boundOk lo ∧ boundOk hi ∧ l ≤ h ∧ h ≤ s.length, .str ((s.take h).drop l))
    | _, _ => none
  | .slice e, .sl xs, none =>
    match boundD lo 0, boundD hi xs.length with
    | some l, some h => some ((T e).ty ≠ .other ∧ boundOk lo ∧ boundOk hi ∧ l ≤ h ∧ h ≤ xs.length ∧ (∀ x ∈ xs, x.cells.length = (T e).size), .sl ((xs.take h).drop l))
    | _, _ => none
  | .slice e, .slt xs, none =>
    match boundD lo 0, boundD hi xs.length with
    | some l, some h => some ((T e).ty ≠ .other ∧ boundOk lo ∧ boundOk hi ∧ l ≤ h ∧ h ≤ xs.length ∧ (∀ x ∈ xs, x.cells.length = (T e).size), .sl ((xs.take h).drop l))
    | _, _ => none
  | .slice e, .sl xs, some m =>
    match boundD lo 0, boundD hi xs.length, boundD (some m) 0 with
    | some l, some h, some k => some ((T e).ty ≠ .other ∧ hi.isSome ∧ boundOk lo ∧ boundOk hi ∧ boundOk (some m) ∧ l ≤ h ∧ h = k ∧ k ≤ xs.length ∧ (∀ x ∈ xs, x.cells.length = (T e).size), .slt ((xs.take h).drop l))
    | _, _, _ => none
  | .slice e, .slt xs, some m =>
    match boundD lo 0, boundD hi xs.length, boundD (some m) 0 with
    | some l, some h, some k => some ((T e).ty ≠ .other ∧ hi.isSome ∧ boundOk lo ∧ boundOk hi ∧ boundOk (some m) ∧ l ≤ h ∧ h = k ∧ k ≤ xs.length ∧ (∀ x ∈ xs, x.cells.length = (T e).size), .slt ((xs.take h).drop l))
    | _, _, _ => none
  | .array n e, .cp cs, none =>
    match boundD lo 0, boundD hi n with
    | some l, some h => some ((T e).ty ≠ .other ∧ (T e).size = 1 ∧ n ≤ cs.length ∧ (∀ x ∈ cs.take n, x.cells = [x]) ∧ boundOk lo ∧ boundOk hi ∧ l ≤ h ∧ h ≤ n, .sl (((cs.take n).take h).drop l))
    | _, _ => none
  | _, _, _ => none

end Go.Val
