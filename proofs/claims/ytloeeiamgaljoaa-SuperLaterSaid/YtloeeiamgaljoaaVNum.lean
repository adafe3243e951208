/- Numbers as words and octets; stores that have grown; loops by what each round finds. -/
import Derived.Test.YtloeeiamgaljoaaVRun2
import Derived.Laws.BitsLemmas
import Derived.Laws.BitsAllLaws
import Derived.Laws.Bits64
namespace Go.Val
open Go.RowKit
set_option linter.unusedSimpArgs false
set_option linter.unusedVariables false

theorem app_len {α : Type} (l m : List α) : (l ++ m).length = l.length + m.length := List.length_append
theorem app_get {α : Type} (l m : List α) (k : Nat) : (l ++ m)[l.length + k]? = m[k]? := by rw [List.getElem?_append_right (by omega)]; congr 1; omega
theorem app_get0 {α : Type} (l m : List α) : (l ++ m)[l.length]? = m[0]? := app_get l m 0
theorem app_set {α : Type} (l m : List α) (k : Nat) (x : α) : (l ++ m).set (l.length + k) x = l ++ m.set k x := by rw [List.set_append_right _ _ (by omega)]; congr 2; omega
theorem app_set0 {α : Type} (l m : List α) (x : α) : (l ++ m).set l.length x = l ++ m.set 0 x := app_set l m 0 x

/-! ### zeros -/
theorem zeros_rep (n : Nat) (v : Value) : (ofVal (.agg (Array.replicate n v))).cells = List.replicate n (ofVal0 v) := by
  simp [ofVal, DV.cells]
theorem zeros_lit (l : List Value) : (ofVal (.agg l.toArray)).cells = l.map ofVal0 := by simp [ofVal, DV.cells]

/-! ### numbers -/
theorem wrap_i64_id {n : Int} (h0 : -9223372036854775808 ≤ n) (h1 : n < 9223372036854775808) : IntKind.i64.wrap n = n := by rw [IntKind.wrap_i64]; omega
theorem wrap_u64_id {n : Int} (h0 : 0 ≤ n) (h1 : n < 18446744073709551616) : IntKind.u64.wrap n = n := by
  rw [IntKind.wrap_u64]; omega
theorem wrap_u32_id {n : Int} (h0 : 0 ≤ n) (h1 : n < 4294967296) : IntKind.u32.wrap n = n := by rw [IntKind.wrap_u32']; omega
theorem wrap_u8_id {n : Int} (h0 : 0 ≤ n) (h1 : n < 256) : IntKind.u8.wrap n = n := by rw [IntKind.wrap_u8']; omega

abbrev u32 (w : BitVec 32) : DV := .int .u32 (w.toNat : Int)
abbrev u8 (b : UInt8) : DV := .int .u8 (b.toNat : Int)
abbrev i64 (n : Nat) : DV := .int .i64 (n : Int)

theorem p32 : ((2 ^ 32 : Nat) : Int) = 4294967296 := by decide
theorem p8 : ((2 ^ 8 : Nat) : Int) = 256 := by decide
theorem ofInt_toNat {k : Nat} (w : BitVec k) : BitVec.ofInt k (w.toNat : Int) = w := by
  apply BitVec.eq_of_toNat_eq
  simp [BitVec.toNat_ofInt]

theorem wrap_u32_bv (w : BitVec 32) : IntKind.u32.wrap (w.toNat : Int) = (w.toNat : Int) := by
  rw [IntKind.wrap_u32']; have := w.isLt; omega
theorem wrap_u8_bv (w : BitVec 8) : IntKind.u8.wrap (w.toNat : Int) = (w.toNat : Int) := by
  rw [IntKind.wrap_u8']; have := w.isLt; omega
theorem u32_xor (a b : BitVec 32) : bitsD .xor .u32 (a.toNat : Int) (b.toNat : Int) = ((a ^^^ b).toNat : Int) := by
  show IntKind.u32.wrap (BitVec.ofInt 32 (a.toNat : Int) ^^^ BitVec.ofInt 32 (b.toNat : Int)).toNat = _
  rw [ofInt_toNat, ofInt_toNat]
  exact wrap_u32_bv _
theorem u32_and (a b : BitVec 32) : bitsD .and .u32 (a.toNat : Int) (b.toNat : Int) = ((a &&& b).toNat : Int) := by
  show IntKind.u32.wrap (BitVec.ofInt 32 (a.toNat : Int) &&& BitVec.ofInt 32 (b.toNat : Int)).toNat = _
  rw [ofInt_toNat, ofInt_toNat]
  exact wrap_u32_bv _
theorem u32_or (a b : BitVec 32) : bitsD .or .u32 (a.toNat : Int) (b.toNat : Int) = ((a ||| b).toNat : Int) := by
  show IntKind.u32.wrap (BitVec.ofInt 32 (a.toNat : Int) ||| BitVec.ofInt 32 (b.toNat : Int)).toNat = _
  rw [ofInt_toNat, ofInt_toNat]
  exact wrap_u32_bv _
theorem u32_mulc (c : Nat) (hc : c < 4294967296) (b : BitVec 32) : IntKind.u32.wrap ((c : Int) * (b.toNat : Int)) = ((BitVec.ofNat 32 c * b).toNat : Int) := by
  rw [IntKind.wrap_u32', BitVec.toNat_mul, BitVec.toNat_ofNat, Nat.mod_eq_of_lt (show c < 2 ^ 32 from hc), Int.natCast_emod, Int.natCast_mul, p32]
theorem u32_shl (a : BitVec 32) (k : Nat) : IntKind.u32.wrap ((a.toNat : Int) * 2 ^ k) = ((a <<< k).toNat : Int) := by
  rw [IntKind.wrap_u32', BitVec.toNat_shiftLeft, Nat.shiftLeft_eq, Int.natCast_emod, Int.natCast_mul, p32, Int.natCast_pow]
  rfl
theorem u32_shr (a : BitVec 32) (k : Nat) : Int.fdiv (a.toNat : Int) (2 ^ k) = ((a >>> k).toNat : Int) := by
  rw [BitVec.toNat_ushiftRight, Nat.shiftRight_eq_div_pow, Int.fdiv_eq_ediv_of_nonneg _ (Int.pow_nonneg (by omega)), Int.natCast_ediv, Int.natCast_pow]
  rfl
theorem u32_ofNat (n : Nat) : IntKind.u32.wrap (n : Int) = ((BitVec.ofNat 32 n).toNat : Int) := by
  rw [IntKind.wrap_u32', BitVec.toNat_ofNat, Int.natCast_emod, p32]
/-- A word's lowest octet. -/
def low8 (w : BitVec 32) : UInt8 := UInt8.ofBitVec (w.setWidth 8)
theorem u32_low (w : BitVec 32) : IntKind.u8.wrap (w.toNat : Int) = ((low8 w).toNat : Int) := by
  show _ = (((w.setWidth 8).toNat : Nat) : Int)
  rw [IntKind.wrap_u8', BitVec.toNat_setWidth, Int.natCast_emod, p8]
theorem u8_xor (a b : UInt8) : bitsD .xor .u8 (a.toNat : Int) (b.toNat : Int) = ((a ^^^ b).toNat : Int) := by
  show IntKind.u8.wrap (BitVec.ofInt 8 (a.toBitVec.toNat : Int) ^^^ BitVec.ofInt 8 (b.toBitVec.toNat : Int)).toNat = _
  rw [ofInt_toNat, ofInt_toNat]
  exact wrap_u8_bv _
theorem u8_u32 (b : UInt8) : IntKind.u32.wrap (b.toNat : Int) = ((b.toBitVec.setWidth 32).toNat : Int) := by
  rw [wrap_u32_id (by omega) (by have := b.toNat_lt; omega), BitVec.toNat_setWidth, Nat.mod_eq_of_lt (by have := b.toBitVec.isLt; omega)]
  rfl
theorem u32_not (w : BitVec 32) : bitsD .xor .u32 4294967295 (w.toNat : Int) = ((~~~w).toNat : Int) := by
  have h : (4294967295 : Int) = ((BitVec.allOnes 32).toNat : Int) := by decide
  rw [h, u32_xor, BitVec.allOnes_xor]

/-! ### what is there -/
theorem Solid_int (σ : Store) (k : IntKind) (n : Int) : Solid σ (.int k n) = True := rfl
theorem Solid_bool (σ : Store) (b : Bool) : Solid σ (.bool b) = True := rfl
theorem Solid_str (σ : Store) (s : List UInt8) : Solid σ (.str s) = True := rfl
theorem Solid_agg (σ : Store) (s : List DV) : Solid σ (.agg s) = True := rfl
theorem Solid_tup (σ : Store) (s : List DV) : Solid σ (.tup s) = True := rfl
theorem Solid_sl (σ : Store) (s : List DV) : Solid σ (.sl s) = True := rfl
theorem Solid_slt (σ : Store) (s : List DV) : Solid σ (.slt s) = True := rfl
theorem Solid_cp (σ : Store) (s : List DV) : Solid σ (.cp s) = True := rfl
theorem Solid_ptr (σ : Store) (b o : Nat) : Solid σ (.ptr b o) = True := rfl
theorem Solid_nilp (σ : Store) : Solid σ .nilp = True := rfl
theorem Cell1_int (σ : Store) (k : IntKind) (n : Int) : Cell1 σ (.int k n) = True := rfl
theorem Cell1_bool (σ : Store) (b : Bool) : Cell1 σ (.bool b) = True := rfl
theorem Cell1_str (σ : Store) (s : List UInt8) : Cell1 σ (.str s) = True := rfl
theorem Cell1_sl (σ : Store) (s : List DV) : Cell1 σ (.sl s) = True := rfl
theorem Cell1_slt (σ : Store) (s : List DV) : Cell1 σ (.slt s) = True := rfl
theorem Cell1_cp (σ : Store) (s : List DV) : Cell1 σ (.cp s) = True := rfl
theorem Cell1_ptr (σ : Store) (b o : Nat) : Cell1 σ (.ptr b o) = True := rfl
theorem Cell1_nilp (σ : Store) : Cell1 σ .nilp = True := rfl
theorem FlatD_int (σ : Store) (k : IntKind) (n : Int) : FlatD σ (.int k n) = True := by simp [FlatD, Solid, DV.cells, Cell1]
theorem FlatD_bool (σ : Store) (b : Bool) : FlatD σ (.bool b) = True := by simp [FlatD, Solid, DV.cells, Cell1]
theorem FlatD_str (σ : Store) (b : List UInt8) : FlatD σ (.str b) = True := by simp [FlatD, Solid, DV.cells, Cell1]
theorem FlatD_sl (σ : Store) (b : List DV) : FlatD σ (.sl b) = True := by simp [FlatD, Solid, DV.cells, Cell1]
theorem FlatD_slt (σ : Store) (b : List DV) : FlatD σ (.slt b) = True := by simp [FlatD, Solid, DV.cells, Cell1]
theorem FlatD_ptr (σ : Store) (b o : Nat) : FlatD σ (.ptr b o) = True := by simp [FlatD, Solid, DV.cells, Cell1]
theorem Solid_mp (σ : Store) (n : Nat) : Solid σ (.mp n) = True := rfl
theorem Cell1_mp (σ : Store) (n : Nat) : Cell1 σ (.mp n) = True := rfl
theorem FlatD_mp (σ : Store) (n : Nat) : FlatD σ (.mp n) = True := by simp [FlatD, Solid, DV.cells, Cell1]
theorem Solid_it (σ : Store) (n : Nat) : Solid σ (.it n) = True := rfl
theorem Cell1_it (σ : Store) (n : Nat) : Cell1 σ (.it n) = True := rfl
theorem FlatD_it (σ : Store) (n : Nat) : FlatD σ (.it n) = True := by simp [FlatD, Solid, DV.cells, Cell1]
theorem Solid_cm (σ : Store) (a b : List DV) : Solid σ (.cm a b) = True := rfl
theorem Cell1_cm (σ : Store) (a b : List DV) : Cell1 σ (.cm a b) = True := rfl
theorem FlatD_cm (σ : Store) (a b : List DV) : FlatD σ (.cm a b) = True := by simp [FlatD, Solid, DV.cells, Cell1]
theorem Solid_fn (σ : Store) (f : Fn) (a b : List DV) : Solid σ (.fn f a b) = True := rfl
theorem Cell1_fn (σ : Store) (f : Fn) (a b : List DV) : Cell1 σ (.fn f a b) = True := rfl
theorem FlatD_fn (σ : Store) (f : Fn) (a b : List DV) : FlatD σ (.fn f a b) = True := by simp [FlatD, Solid, DV.cells, Cell1]
theorem Solid_nilfn (σ : Store)  : Solid σ (.nilfn) = True := rfl
theorem Cell1_nilfn (σ : Store)  : Cell1 σ (.nilfn) = True := rfl
theorem FlatD_nilfn (σ : Store)  : FlatD σ (.nilfn) = True := by simp [FlatD, Solid, DV.cells, Cell1]
theorem cells_nilfn : (DV.nilfn).cells = [.nilfn] := rfl
theorem Cell1_row (σ : Store) (i l : Nat) : Cell1 σ (.row i l) = Solid σ (.row i l) := rfl
theorem FlatD_row (σ : Store) (i l : Nat) : FlatD σ (.row i l) = Solid σ (.row i l) := by
  simp only [FlatD, Solid, DV.cells, List.mem_singleton, forall_eq, Cell1, and_self]
theorem FlatD_agg (σ : Store) (cs : List DV) : FlatD σ (.agg cs) = ∀ c ∈ cs, Cell1 σ c := by simp [FlatD, Solid, DV.cells]
theorem all_nil (p : DV → Prop) : (∀ c ∈ ([] : List DV), p c) = True := by simp
theorem all_cons (p : DV → Prop) (d : DV) (l : List DV) : (∀ c ∈ d :: l, p c) = (p d ∧ ∀ c ∈ l, p c) := by simp
theorem ex_agg (a : Array Value) : (∃ z, Value.agg a = Value.agg z) = True := by simp
theorem over_all (cs ds : List DV) (h : ds.length = cs.length) : over cs 0 ds = ds := by simp [over, h]

theorem over_one (cs : List DV) (i : Nat) (d : DV) (h : i < cs.length) : over cs i [d] = cs.set i d := by
  rw [over, List.set_eq_take_append_cons_drop, if_pos h, List.length_singleton, List.append_assoc]
  rfl

theorem over_zero_nil (cs : List DV) : over cs 0 ([] : List DV) = cs := by simp [over]
theorem over_zero_cons (c d : DV) (cs ds : List DV) : over (c :: cs) 0 (d :: ds) = d :: over cs 0 ds := by simp [over]
theorem over_cons_succ (c : DV) (cs ds : List DV) (k : Nat) : over (c :: cs) (k + 1) ds = c :: over cs k ds := by
  simp only [over, List.take_succ_cons, List.cons_append]
  rw [show k + 1 + ds.length = (k + ds.length) + 1 by omega, List.drop_succ_cons]

theorem bytes_len (l : List UInt8) : (bytes l).length = l.length := by simp [bytes]
theorem bytes_get {l : List UInt8} {j : Nat} {c : UInt8} (h : l[j]? = some c) : (bytes l).getD j .undef = .int .u8 c.toNat := by
  simp [bytes, List.getD_eq_getElem?_getD, h]
theorem map_get {α : Type} {l : List α} {f : α → DV} {j : Nat} {c : α} (h : l[j]? = some c) : (l.map f).getD j .undef = f c := by
  simp [List.getD_eq_getElem?_getD, h]
theorem bytes_take (l : List UInt8) (n : Nat) : (bytes l).take n = bytes (l.take n) := by simp [bytes, List.map_take]
theorem bytes_drop (l : List UInt8) (n : Nat) : (bytes l).drop n = bytes (l.drop n) := by simp [bytes, List.map_drop]
theorem bytes_append (l m : List UInt8) : bytes (l ++ m) = bytes l ++ bytes m := by simp [bytes]
theorem bytes_cell1 (l : List UInt8) : ∀ x ∈ bytes l, x.cells.length = 1 := by
  intro x hx; simp only [bytes, List.mem_map] at hx; obtain ⟨b, _, rfl⟩ := hx; rfl
theorem bytes_all (l : List UInt8) : (bytes l).all DV.isByte = true := by
  rw [List.all_eq_true]; intro x hx; simp only [bytes, List.mem_map] at hx; obtain ⟨b, _, rfl⟩ := hx
  have := b.toNat_lt
  simp [DV.isByte]
  try omega
theorem unbytes_bytes (l : List UInt8) : unbytes (bytes l) = l := by
  simp only [unbytes, bytes, List.map_map]
  rw [List.map_congr_left (g := id)]
  · simp
  · intro b _
    simp [DV.byte]
theorem flat_bytes' (l : List UInt8) : flat (bytes l) = bytes l := flat_bytes_of l
theorem bytes_named (l : List UInt8) (r b m : Nat) : nameds r b m (bytes l) = true := by
  rw [nameds_iff]; intro x hx; simp only [bytes, List.mem_map] at hx; obtain ⟨b, _, rfl⟩ := hx; rfl

theorem rep_1 {α : Type} (a : α) : List.replicate 1 a = [a] := rfl
theorem rep_2 {α : Type} (a : α) : List.replicate 2 a = [a, a] := rfl
theorem rep_3 {α : Type} (a : α) : List.replicate 3 a = [a, a, a] := rfl
theorem rep_4 {α : Type} (a : α) : List.replicate 4 a = [a, a, a, a] := rfl
theorem rep_5 {α : Type} (a : α) : List.replicate 5 a = [a, a, a, a, a] := rfl
theorem rep_6 {α : Type} (a : α) : List.replicate 6 a = [a, a, a, a, a, a] := rfl
theorem rep_8 {α : Type} (a : α) : List.replicate 8 a = [a, a, a, a, a, a, a, a] := rfl
theorem rep_9 {α : Type} (a : α) : List.replicate 9 a = [a, a, a, a, a, a, a, a, a] := rfl
theorem flat_nil : flat [] = [] := rfl
theorem flat_cons (x : DV) (xs : List DV) : flat (x :: xs) = x.cells ++ flat xs := rfl
theorem over4 {a b c d : DV} {ds : List DV} (h : ds.length = 4) : over [a, b, c, d] 0 ds = ds := over_all _ _ h

theorem cells_int (k : IntKind) (n : Int) : (DV.int k n).cells = [.int k n] := rfl
theorem cells_bool (b : Bool) : (DV.bool b).cells = [.bool b] := rfl
theorem cells_str (s : List UInt8) : (DV.str s).cells = [.str s] := rfl
theorem cells_agg (cs : List DV) : (DV.agg cs).cells = cs := rfl
theorem cells_sl (cs : List DV) : (DV.sl cs).cells = [.sl cs] := rfl
theorem cells_slt (cs : List DV) : (DV.slt cs).cells = [.slt cs] := rfl
theorem cells_row (i n : Nat) : (DV.row i n).cells = [.row i n] := rfl
theorem cells_ptr (i n : Nat) : (DV.ptr i n).cells = [.ptr i n] := rfl
theorem cells_cp (cs : List DV) : (DV.cp cs).cells = [.cp cs] := rfl
theorem cells_nilp : DV.nilp.cells = [.nilp] := rfl
theorem cells_mp (i : Nat) : (DV.mp i).cells = [.mp i] := rfl
theorem cells_it (i : Nat) : (DV.it i).cells = [.it i] := rfl
theorem cells_cm (a b : List DV) : (DV.cm a b).cells = [.cm a b] := rfl
theorem cells_fn (f : Fn) (a b : List DV) : (DV.fn f a b).cells = [.fn f a b] := rfl
theorem cells_byte (l : List UInt8) (n : Nat) : ∀ x ∈ (bytes l).take n, x.cells = [x] := by
  intro x hx
  have := List.mem_of_mem_take hx
  simp only [bytes, List.mem_map] at this
  obtain ⟨b, _, rfl⟩ := this
  rfl

theorem unbytes_nil : unbytes [] = [] := rfl
theorem unbytes_cons (k : IntKind) (b : UInt8) (l : List DV) : unbytes (.int k (b.toNat : Int) :: l) = b :: unbytes l := by
  simp [unbytes, DV.byte]
theorem isByte_cons (b : UInt8) (l : List DV) : (DV.int .u8 (b.toNat : Int) :: l).all DV.isByte = l.all DV.isByte := by
  have := b.toNat_lt
  simp [DV.isByte]
  try omega
theorem isByte_nil : ([] : List DV).all DV.isByte = true := rfl
theorem ofVal_str0 : ofVal (.string ⟨#[]⟩) = .str [] := rfl

theorem Solid_rowK (l r : List (Option Row)) (k : Nat) (bx : List (Option Box)) (m : List (Option (List (DV × DV)))) (n : Nat) : Solid ⟨l ++ r, bx, m⟩ (.row (l.length + k) n) = (match r[k]? with | some (some R) => R.xs.length = n | _ => False) := by
  simp only [Solid, app_get]
  cases h : r[k]? with
  | none => simp
  | some o => cases o <;> simp
theorem Solid_row0 (l r : List (Option Row)) (R : Row) (bx : List (Option Box)) (m : List (Option (List (DV × DV)))) (n : Nat) : Solid ⟨l ++ (some R :: r), bx, m⟩ (.row l.length n) = (R.xs.length = n) := by
  simp only [Solid, app_get0, List.getElem?_cons_zero, Option.some.injEq, exists_eq_left']
theorem tmod_nat (a b : Nat) : Int.tmod (a : Int) (b : Int) = ((a % b : Nat) : Int) := (Int.ofNat_tmod a b).symm
theorem tdiv_nat (a b : Nat) : Int.tdiv (a : Int) (b : Int) = ((a / b : Nat) : Int) := (Int.ofNat_tdiv a b).symm

/-! ### less said -/
theorem Le.undef (d : DV) : Le d .undef := fun _ _ _ v _ => .undef v
theorem Le.eq {d d' : DV} (h : d = d') : Le d d' := h ▸ Le.refl d

section
variable {P : Program} {T : TypeId → TI} {slots : List DV} {σ : Store} {Q : Exit → St → Prop}

theorem Rounds_mono {c : Code} {n m : Nat} (h : n ≤ m) : ∀ {s : St}, Rounds P c Q n s → Rounds P c Q m s := by
  induction n generalizing m with
  | zero => intro s h; exact h.elim
  | succ n ih =>
    intro s hr
    obtain ⟨m, rfl⟩ : ∃ k, m = k + 1 := ⟨m - 1, by omega⟩
    refine Ev.mono hr ?_
    intro e s' h'
    cases e <;> first | exact ih (by omega) h' | exact h'

theorem Rounds_le {c : Code} {n : Nat} {s : St} {t : List DV} (hle : LeL s.slots t) (h : Rounds P c Q n ⟨t, s.σ⟩) : Rounds P c Q n s := by
  cases n with
  | zero => exact h.elim
  | succ n => exact Ev_le hle h

/-- What a round must come to. -/
def RoundQ (I : Nat → List DV → Store → Prop) (n i : Nat) (Q : Exit → St → Prop) : Exit → St → Prop
  | .normal, s => i < n ∧ ∃ t, LeL s.slots t ∧ I (i + 1) t s.σ
  | e, s => Q e s

/-- A loop of at most n rounds: round i finds I i, and ends with I (i + 1), or leaves the loop. -/
theorem Ev_iter {c : Code} (I : Nat → List DV → Store → Prop) (n : Nat) {t : List DV} (hle : LeL slots t) (h0 : I 0 t σ)
    (h : ∀ i slots σ, i ≤ n → I i slots σ → Ev P c ⟨slots, σ⟩ (RoundQ I n i Q)) : Ev P (.loop c) ⟨slots, σ⟩ Q := by
  refine Ev_loop (n + 1) ?_
  have key : ∀ k i slots σ, i + k = n → I i slots σ → Rounds P c Q (k + 1) ⟨slots, σ⟩ := by
    intro k
    induction k with
    | zero =>
      intro i slots σ hi hI
      refine Ev.mono (h i slots σ (by omega) hI) ?_
      intro e s' h'
      cases e with
      | normal => obtain ⟨h1, _⟩ := h'; omega
      | _ => exact h'
    | succ k ih =>
      intro i slots σ hi hI
      refine Ev.mono (h i slots σ (by omega) hI) ?_
      intro e s' h'
      cases e with
      | normal => obtain ⟨_, t, h1, h2⟩ := h'; exact Rounds_le h1 (ih (i + 1) t s'.σ (by omega) h2)
      | _ => exact h'
  exact Rounds_le hle (key n 0 t σ (by omega) h0)
end
end Go.Val
