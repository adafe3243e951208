/- The types of the program of this seat as a table, and that they are the program's; names for its functions. -/
import Derived.Test.YtlfnmgmbmgacgaaProg
import Derived.Test.YtlfnmgmbmgacgaaVM5
import Derived.KernelRfl
namespace Go.Proofs.Ytlfnmgmbmgacgaa
open Go Go.Val
set_option maxRecDepth 100000
def tab : List TI := [
  ⟨.other, 0, 0, .nilFunc, false⟩,
  ⟨.func, 1, 8, .nilFunc, false⟩,
  ⟨.int .i64, 1, 8, .int .i64 0, false⟩,
  ⟨.int .i64, 1, 8, .int .i64 0, false⟩,
  ⟨.bool, 1, 1, .bool false, false⟩,
  ⟨.int .u8, 1, 1, .int .u8 0, false⟩,
  ⟨.int .u8, 1, 1, .int .u8 0, false⟩,
  ⟨.struct [(2, 0), (3, 1), (4, 2), (6, 3)], 4, 24, .agg #[.int .i64 0, .int .i64 0, .bool false, .int .u8 0], false⟩,
  ⟨.struct [(2, 0), (3, 1), (4, 2), (6, 3)], 4, 24, .agg #[.int .i64 0, .int .i64 0, .bool false, .int .u8 0], false⟩,
  ⟨.str, 1, 16, .string ⟨#[]⟩, false⟩,
  ⟨.str, 1, 16, .string ⟨#[]⟩, false⟩,
  ⟨.str, 1, 16, .string ⟨#[]⟩, false⟩,
  ⟨.int .u64, 1, 8, .int .u64 0, false⟩,
  ⟨.struct [(9, 0), (12, 1)], 2, 24, .agg #[.string ⟨#[]⟩, .int .u64 0], false⟩,
  ⟨.struct [(9, 0), (12, 1)], 2, 24, .agg #[.string ⟨#[]⟩, .int .u64 0], false⟩,
  ⟨.ptr 124, 1, 8, .pointer none, false⟩,
  ⟨.ptr 127, 1, 8, .pointer none, false⟩,
  ⟨.ptr 136, 1, 8, .pointer none, false⟩,
  ⟨.struct [(17, 0)], 1, 8, .agg #[.pointer none], false⟩,
  ⟨.struct [(17, 0)], 1, 8, .agg #[.pointer none], false⟩,
  ⟨.other, 0, 0, .nilFunc, false⟩,
  ⟨.int .i32, 1, 4, .int .i32 0, false⟩,
  ⟨.slice 28, 1, 24, .slice none 0 0, false⟩,
  ⟨.slice 66, 1, 24, .slice none 0 0, false⟩,
  ⟨.struct [(22, 0), (23, 1), (3, 2), (4, 3)], 4, 64, .agg #[.slice none 0 0, .slice none 0 0, .int .i64 0, .bool false], false⟩,
  ⟨.struct [(22, 0), (23, 1), (3, 2), (4, 3)], 4, 64, .agg #[.slice none 0 0, .slice none 0 0, .int .i64 0, .bool false], false⟩,
  ⟨.struct [(3, 0), (3, 1), (3, 2), (3, 3)], 4, 32, .agg #[.int .i64 0, .int .i64 0, .int .i64 0, .int .i64 0], false⟩,
  ⟨.struct [(3, 0), (3, 1), (3, 2), (3, 3)], 4, 32, .agg #[.int .i64 0, .int .i64 0, .int .i64 0, .int .i64 0], true⟩,
  ⟨.slice 5, 1, 24, .slice none 0 0, false⟩,
  ⟨.struct [(25, 0), (27, 4), (28, 8), (3, 9)], 10, 128, .agg #[.slice none 0 0, .slice none 0 0, .int .i64 0, .bool false, .int .i64 0, .int .i64 0, .int .i64 0, .int .i64 0, .slice none 0 0, .int .i64 0], false⟩,
  ⟨.struct [(25, 0), (27, 4), (28, 8), (3, 9)], 10, 128, .agg #[.slice none 0 0, .slice none 0 0, .int .i64 0, .bool false, .int .i64 0, .int .i64 0, .int .i64 0, .int .i64 0, .slice none 0 0, .int .i64 0], false⟩,
  ⟨.func, 1, 8, .nilFunc, false⟩,
  ⟨.func, 1, 8, .nilFunc, false⟩,
  ⟨.int .i64, 1, 8, .int .i64 0, false⟩,
  ⟨.other, 0, 0, .nilFunc, false⟩,
  ⟨.func, 1, 8, .nilFunc, false⟩,
  ⟨.other, 0, 0, .nilFunc, false⟩,
  ⟨.func, 1, 8, .nilFunc, false⟩,
  ⟨.func, 1, 8, .nilFunc, false⟩,
  ⟨.func, 1, 8, .nilFunc, false⟩,
  ⟨.func, 1, 8, .nilFunc, false⟩,
  ⟨.func, 1, 8, .nilFunc, false⟩,
  ⟨.func, 1, 8, .nilFunc, false⟩,
  ⟨.slice 46, 1, 24, .slice none 0 0, false⟩,
  ⟨.func, 1, 8, .nilFunc, false⟩,
  ⟨.struct [(3, 0), (28, 1)], 2, 32, .agg #[.int .i64 0, .slice none 0 0], false⟩,
  ⟨.struct [(3, 0), (28, 1)], 2, 32, .agg #[.int .i64 0, .slice none 0 0], false⟩,
  ⟨.func, 1, 8, .nilFunc, false⟩,
  ⟨.func, 1, 8, .nilFunc, false⟩,
  ⟨.other, 0, 0, .nilFunc, false⟩,
  ⟨.func, 1, 8, .nilFunc, false⟩,
  ⟨.func, 1, 8, .nilFunc, false⟩,
  ⟨.func, 1, 8, .nilFunc, false⟩,
  ⟨.other, 0, 0, .nilFunc, false⟩,
  ⟨.func, 1, 8, .nilFunc, false⟩,
  ⟨.other, 0, 0, .nilFunc, false⟩,
  ⟨.func, 1, 8, .nilFunc, false⟩,
  ⟨.other, 0, 0, .nilFunc, false⟩,
  ⟨.func, 1, 8, .nilFunc, false⟩,
  ⟨.func, 1, 8, .nilFunc, false⟩,
  ⟨.slice 62, 1, 24, .slice none 0 0, false⟩,
  ⟨.func, 1, 8, .nilFunc, false⟩,
  ⟨.slice 4, 1, 24, .slice none 0 0, false⟩,
  ⟨.func, 1, 8, .nilFunc, false⟩,
  ⟨.func, 1, 8, .nilFunc, false⟩,
  ⟨.struct [(3, 0), (28, 1)], 2, 32, .agg #[.int .i64 0, .slice none 0 0], false⟩,
  ⟨.struct [(3, 0), (28, 1)], 2, 32, .agg #[.int .i64 0, .slice none 0 0], false⟩,
  ⟨.other, 0, 0, .nilFunc, false⟩,
  ⟨.func, 1, 8, .nilFunc, false⟩,
  ⟨.func, 1, 8, .nilFunc, false⟩,
  ⟨.func, 1, 8, .nilFunc, false⟩,
  ⟨.func, 1, 8, .nilFunc, false⟩,
  ⟨.func, 1, 8, .nilFunc, false⟩,
  ⟨.func, 1, 8, .nilFunc, false⟩,
  ⟨.func, 1, 8, .nilFunc, false⟩,
  ⟨.func, 1, 8, .nilFunc, false⟩,
  ⟨.func, 1, 8, .nilFunc, false⟩,
  ⟨.func, 1, 8, .nilFunc, false⟩,
  ⟨.func, 1, 8, .nilFunc, false⟩,
  ⟨.func, 1, 8, .nilFunc, false⟩,
  ⟨.int .u64, 1, 8, .int .u64 0, false⟩,
  ⟨.int .u32, 1, 4, .int .u32 0, false⟩,
  ⟨.func, 1, 8, .nilFunc, false⟩,
  ⟨.other, 0, 0, .nilFunc, false⟩,
  ⟨.func, 1, 8, .nilFunc, false⟩,
  ⟨.func, 1, 8, .nilFunc, false⟩,
  ⟨.other, 0, 0, .nilFunc, false⟩,
  ⟨.func, 1, 8, .nilFunc, false⟩,
  ⟨.other, 0, 0, .nilFunc, false⟩,
  ⟨.func, 1, 8, .nilFunc, false⟩,
  ⟨.func, 1, 8, .nilFunc, false⟩,
  ⟨.func, 1, 8, .nilFunc, false⟩,
  ⟨.func, 1, 8, .nilFunc, false⟩,
  ⟨.func, 1, 8, .nilFunc, false⟩,
  ⟨.slice 71, 1, 24, .slice none 0 0, false⟩,
  ⟨.func, 1, 8, .nilFunc, false⟩,
  ⟨.func, 1, 8, .nilFunc, false⟩,
  ⟨.ptr 25, 1, 8, .pointer none, false⟩,
  ⟨.func, 1, 8, .nilFunc, false⟩,
  ⟨.func, 1, 8, .nilFunc, false⟩,
  ⟨.func, 1, 8, .nilFunc, false⟩,
  ⟨.func, 1, 8, .nilFunc, false⟩,
  ⟨.func, 1, 8, .nilFunc, false⟩,
  ⟨.other, 0, 0, .nilFunc, false⟩,
  ⟨.func, 1, 8, .nilFunc, false⟩,
  ⟨.func, 1, 8, .nilFunc, false⟩,
  ⟨.other, 0, 0, .nilFunc, false⟩,
  ⟨.func, 1, 8, .nilFunc, false⟩,
  ⟨.func, 1, 8, .nilFunc, false⟩,
  ⟨.array 256 81, 256, 1024, .agg (Array.replicate 256 (.int .u32 0)), false⟩,
  ⟨.func, 1, 8, .nilFunc, false⟩,
  ⟨.int .u64, 1, 8, .int .u64 0, false⟩,
  ⟨.array 4 5, 4, 4, .agg #[.int .u8 0, .int .u8 0, .int .u8 0, .int .u8 0], false⟩,
  ⟨.func, 1, 8, .nilFunc, false⟩,
  ⟨.func, 1, 8, .nilFunc, false⟩,
  ⟨.func, 1, 8, .nilFunc, false⟩,
  ⟨.func, 1, 8, .nilFunc, false⟩,
  ⟨.func, 1, 8, .nilFunc, false⟩,
  ⟨.func, 1, 8, .nilFunc, false⟩,
  ⟨.func, 1, 8, .nilFunc, false⟩,
  ⟨.func, 1, 8, .nilFunc, false⟩,
  ⟨.func, 1, 8, .nilFunc, false⟩,
  ⟨.func, 1, 8, .nilFunc, false⟩,
  ⟨.struct [(17, 0), (17, 1), (17, 2), (9, 3)], 4, 40, .agg #[.pointer none, .pointer none, .pointer none, .string ⟨#[]⟩], false⟩,
  ⟨.struct [(17, 0), (17, 1), (17, 2), (9, 3)], 4, 40, .agg #[.pointer none, .pointer none, .pointer none, .string ⟨#[]⟩], false⟩,
  ⟨.array 0 16, 0, 0, .agg #[], false⟩,
  ⟨.struct [(125, 0)], 0, 0, .agg #[], false⟩,
  ⟨.struct [(125, 0)], 0, 0, .agg #[], false⟩,
  ⟨.func, 1, 8, .nilFunc, false⟩,
  ⟨.int .u8, 1, 1, .int .u8 0, false⟩,
  ⟨.int .u8, 1, 1, .int .u8 0, false⟩,
  ⟨.func, 1, 8, .nilFunc, false⟩,
  ⟨.ptr 5, 1, 8, .pointer none, false⟩,
  ⟨.int .i32, 1, 4, .int .i32 0, false⟩,
  ⟨.int .i32, 1, 4, .int .i32 0, false⟩,
  ⟨.struct [(12, 0), (12, 1), (81, 2), (129, 3), (5, 4), (5, 5), (130, 6), (131, 7), (132, 8), (133, 9), (134, 10)], 11, 48, .agg #[.int .u64 0, .int .u64 0, .int .u32 0, .int .u8 0, .int .u8 0, .int .u8 0, .int .u8 0, .nilFunc, .pointer none, .int .i32 0, .int .i32 0], false⟩,
  ⟨.struct [(12, 0), (12, 1), (81, 2), (129, 3), (5, 4), (5, 5), (130, 6), (131, 7), (132, 8), (133, 9), (134, 10)], 11, 48, .agg #[.int .u64 0, .int .u64 0, .int .u32 0, .int .u8 0, .int .u8 0, .int .u8 0, .int .u8 0, .nilFunc, .pointer none, .int .i32 0, .int .i32 0], false⟩,
  ⟨.other, 0, 0, .nilFunc, false⟩]
def T (t : TypeId) : TI := tab.getD t ⟨.other, 0, 0, .nilFunc, false⟩
def TIok (P : Program) (t : TypeId) (ti : TI) : Prop :=
    ∃ i d, P.info? t = some i ∧ P.underlying t = some d ∧ TyRel ti.ty d ∧ i.size = ti.size ∧ i.bytes = ti.bytes ∧ i.zero = some ti.zero ∧ (ti.eqok = true → P.stoodInHeld t = false ∧ P.eqGuardType P.depth t = false ∧ ∃ gs, P.underlying t = some (.struct gs) ∧ ∀ f ∈ gs.toList, f.name ≠ "_")
theorem mk1 {P : Program} {t : TypeId} {ti : TI} {d : TypeDesc} (h : (P.info? t).map (fun i => (i.zero, i.size, i.bytes)) = some (some ti.zero, ti.size, ti.bytes)) (u : P.underlying t = some d) (r : TyRel ti.ty d)
    (e : ti.eqok = true → P.stoodInHeld t = false ∧ P.eqGuardType P.depth t = false ∧ ∃ gs, P.underlying t = some (.struct gs) ∧ ∀ f ∈ gs.toList, f.name ≠ "_") :
    TIok P t ti := by
  simp only [Option.map_eq_some_iff, Prod.mk.injEq] at h
  obtain ⟨i, hi, h1, h2, h3⟩ := h
  exact ⟨i, d, hi, u, r, h2, h3, h1, e⟩
theorem nof {p : Prop} (h : false = true) : p := Bool.noConfusion h
theorem ti1 : TIok Try.prog 1 (T 1) :=
  mk1 (d := _) (by kernel_rfl) Try.underlying1 ⟨_, _, _, rfl⟩ nof
theorem ti2 : TIok Try.prog 2 (T 2) :=
  mk1 (d := _) (by kernel_rfl) Try.underlying2 rfl nof
theorem ti3 : TIok Try.prog 3 (T 3) :=
  mk1 (d := _) (by kernel_rfl) Try.underlying3 rfl nof
theorem ti4 : TIok Try.prog 4 (T 4) :=
  mk1 (d := _) (by kernel_rfl) Try.underlying4 rfl nof
theorem ti5 : TIok Try.prog 5 (T 5) :=
  mk1 (d := _) (by kernel_rfl) Try.underlying5 rfl nof
theorem ti6 : TIok Try.prog 6 (T 6) :=
  mk1 (d := _) (by kernel_rfl) Try.underlying6 rfl nof
theorem ti7 : TIok Try.prog 7 (T 7) :=
  mk1 (d := _) (by kernel_rfl) Try.underlying7 ⟨_, rfl, rfl⟩ nof
theorem ti8 : TIok Try.prog 8 (T 8) :=
  mk1 (d := _) (by kernel_rfl) Try.underlying8 ⟨_, rfl, rfl⟩ nof
theorem ti9 : TIok Try.prog 9 (T 9) :=
  mk1 (d := _) (by kernel_rfl) Try.underlying9 rfl nof
theorem ti10 : TIok Try.prog 10 (T 10) :=
  mk1 (d := _) (by kernel_rfl) Try.underlying10 rfl nof
theorem ti11 : TIok Try.prog 11 (T 11) :=
  mk1 (d := _) (by kernel_rfl) Try.underlying11 rfl nof
theorem ti12 : TIok Try.prog 12 (T 12) :=
  mk1 (d := _) (by kernel_rfl) Try.underlying12 rfl nof
theorem ti13 : TIok Try.prog 13 (T 13) :=
  mk1 (d := _) (by kernel_rfl) Try.underlying13 ⟨_, rfl, rfl⟩ nof
theorem ti14 : TIok Try.prog 14 (T 14) :=
  mk1 (d := _) (by kernel_rfl) Try.underlying14 ⟨_, rfl, rfl⟩ nof
theorem ti15 : TIok Try.prog 15 (T 15) :=
  mk1 (d := _) (by kernel_rfl) Try.underlying15 rfl nof
theorem ti16 : TIok Try.prog 16 (T 16) :=
  mk1 (d := _) (by kernel_rfl) Try.underlying16 rfl nof
theorem ti17 : TIok Try.prog 17 (T 17) :=
  mk1 (d := _) (by kernel_rfl) Try.underlying17 rfl nof
theorem ti18 : TIok Try.prog 18 (T 18) :=
  mk1 (d := _) (by kernel_rfl) Try.underlying18 ⟨_, rfl, rfl⟩ nof
theorem ti19 : TIok Try.prog 19 (T 19) :=
  mk1 (d := _) (by kernel_rfl) Try.underlying19 ⟨_, rfl, rfl⟩ nof
theorem ti21 : TIok Try.prog 21 (T 21) :=
  mk1 (d := _) (by kernel_rfl) Try.underlying21 rfl nof
theorem ti22 : TIok Try.prog 22 (T 22) :=
  mk1 (d := _) (by kernel_rfl) Try.underlying22 rfl nof
theorem ti23 : TIok Try.prog 23 (T 23) :=
  mk1 (d := _) (by kernel_rfl) Try.underlying23 rfl nof
theorem ti24 : TIok Try.prog 24 (T 24) :=
  mk1 (d := _) (by kernel_rfl) Try.underlying24 ⟨_, rfl, rfl⟩ nof
theorem ti25 : TIok Try.prog 25 (T 25) :=
  mk1 (d := _) (by kernel_rfl) Try.underlying25 ⟨_, rfl, rfl⟩ nof
theorem ti26 : TIok Try.prog 26 (T 26) :=
  mk1 (d := _) (by kernel_rfl) Try.underlying26 ⟨_, rfl, rfl⟩ nof
theorem ti27 : TIok Try.prog 27 (T 27) :=
  mk1 (d := _) (by kernel_rfl) Try.underlying27 ⟨_, rfl, rfl⟩ (fun _ => ⟨by kernel_rfl, by kernel_rfl, _, Try.underlying27, by simp⟩)
theorem ti28 : TIok Try.prog 28 (T 28) :=
  mk1 (d := _) (by kernel_rfl) Try.underlying28 rfl nof
theorem ti29 : TIok Try.prog 29 (T 29) :=
  mk1 (d := _) (by kernel_rfl) Try.underlying29 ⟨_, rfl, rfl⟩ nof
theorem ti30 : TIok Try.prog 30 (T 30) :=
  mk1 (d := _) (by kernel_rfl) Try.underlying30 ⟨_, rfl, rfl⟩ nof
theorem ti31 : TIok Try.prog 31 (T 31) :=
  mk1 (d := _) (by kernel_rfl) Try.underlying31 ⟨_, _, _, rfl⟩ nof
theorem ti32 : TIok Try.prog 32 (T 32) :=
  mk1 (d := _) (by kernel_rfl) Try.underlying32 ⟨_, _, _, rfl⟩ nof
theorem ti33 : TIok Try.prog 33 (T 33) :=
  mk1 (d := _) (by kernel_rfl) Try.underlying33 rfl nof
theorem ti35 : TIok Try.prog 35 (T 35) :=
  mk1 (d := _) (by kernel_rfl) Try.underlying35 ⟨_, _, _, rfl⟩ nof
theorem ti37 : TIok Try.prog 37 (T 37) :=
  mk1 (d := _) (by kernel_rfl) Try.underlying37 ⟨_, _, _, rfl⟩ nof
theorem ti38 : TIok Try.prog 38 (T 38) :=
  mk1 (d := _) (by kernel_rfl) Try.underlying38 ⟨_, _, _, rfl⟩ nof
theorem ti39 : TIok Try.prog 39 (T 39) :=
  mk1 (d := _) (by kernel_rfl) Try.underlying39 ⟨_, _, _, rfl⟩ nof
theorem ti40 : TIok Try.prog 40 (T 40) :=
  mk1 (d := _) (by kernel_rfl) Try.underlying40 ⟨_, _, _, rfl⟩ nof
theorem ti41 : TIok Try.prog 41 (T 41) :=
  mk1 (d := _) (by kernel_rfl) Try.underlying41 ⟨_, _, _, rfl⟩ nof
theorem ti42 : TIok Try.prog 42 (T 42) :=
  mk1 (d := _) (by kernel_rfl) Try.underlying42 ⟨_, _, _, rfl⟩ nof
theorem ti43 : TIok Try.prog 43 (T 43) :=
  mk1 (d := _) (by kernel_rfl) Try.underlying43 rfl nof
theorem ti44 : TIok Try.prog 44 (T 44) :=
  mk1 (d := _) (by kernel_rfl) Try.underlying44 ⟨_, _, _, rfl⟩ nof
theorem ti45 : TIok Try.prog 45 (T 45) :=
  mk1 (d := _) (by kernel_rfl) Try.underlying45 ⟨_, rfl, rfl⟩ nof
theorem ti46 : TIok Try.prog 46 (T 46) :=
  mk1 (d := _) (by kernel_rfl) Try.underlying46 ⟨_, rfl, rfl⟩ nof
theorem ti47 : TIok Try.prog 47 (T 47) :=
  mk1 (d := _) (by kernel_rfl) Try.underlying47 ⟨_, _, _, rfl⟩ nof
theorem ti48 : TIok Try.prog 48 (T 48) :=
  mk1 (d := _) (by kernel_rfl) Try.underlying48 ⟨_, _, _, rfl⟩ nof
theorem ti50 : TIok Try.prog 50 (T 50) :=
  mk1 (d := _) (by kernel_rfl) Try.underlying50 ⟨_, _, _, rfl⟩ nof
theorem ti51 : TIok Try.prog 51 (T 51) :=
  mk1 (d := _) (by kernel_rfl) Try.underlying51 ⟨_, _, _, rfl⟩ nof
theorem ti52 : TIok Try.prog 52 (T 52) :=
  mk1 (d := _) (by kernel_rfl) Try.underlying52 ⟨_, _, _, rfl⟩ nof
theorem ti54 : TIok Try.prog 54 (T 54) :=
  mk1 (d := _) (by kernel_rfl) Try.underlying54 ⟨_, _, _, rfl⟩ nof
theorem ti56 : TIok Try.prog 56 (T 56) :=
  mk1 (d := _) (by kernel_rfl) Try.underlying56 ⟨_, _, _, rfl⟩ nof
theorem ti58 : TIok Try.prog 58 (T 58) :=
  mk1 (d := _) (by kernel_rfl) Try.underlying58 ⟨_, _, _, rfl⟩ nof
theorem ti59 : TIok Try.prog 59 (T 59) :=
  mk1 (d := _) (by kernel_rfl) Try.underlying59 ⟨_, _, _, rfl⟩ nof
theorem ti60 : TIok Try.prog 60 (T 60) :=
  mk1 (d := _) (by kernel_rfl) Try.underlying60 rfl nof
theorem ti61 : TIok Try.prog 61 (T 61) :=
  mk1 (d := _) (by kernel_rfl) Try.underlying61 ⟨_, _, _, rfl⟩ nof
theorem ti62 : TIok Try.prog 62 (T 62) :=
  mk1 (d := _) (by kernel_rfl) Try.underlying62 rfl nof
theorem ti63 : TIok Try.prog 63 (T 63) :=
  mk1 (d := _) (by kernel_rfl) Try.underlying63 ⟨_, _, _, rfl⟩ nof
theorem ti64 : TIok Try.prog 64 (T 64) :=
  mk1 (d := _) (by kernel_rfl) Try.underlying64 ⟨_, _, _, rfl⟩ nof
theorem ti65 : TIok Try.prog 65 (T 65) :=
  mk1 (d := _) (by kernel_rfl) Try.underlying65 ⟨_, rfl, rfl⟩ nof
theorem ti66 : TIok Try.prog 66 (T 66) :=
  mk1 (d := _) (by kernel_rfl) Try.underlying66 ⟨_, rfl, rfl⟩ nof
theorem ti68 : TIok Try.prog 68 (T 68) :=
  mk1 (d := _) (by kernel_rfl) Try.underlying68 ⟨_, _, _, rfl⟩ nof
theorem ti69 : TIok Try.prog 69 (T 69) :=
  mk1 (d := _) (by kernel_rfl) Try.underlying69 ⟨_, _, _, rfl⟩ nof
theorem ti70 : TIok Try.prog 70 (T 70) :=
  mk1 (d := _) (by kernel_rfl) Try.underlying70 ⟨_, _, _, rfl⟩ nof
theorem ti71 : TIok Try.prog 71 (T 71) :=
  mk1 (d := _) (by kernel_rfl) Try.underlying71 ⟨_, _, _, rfl⟩ nof
theorem ti72 : TIok Try.prog 72 (T 72) :=
  mk1 (d := _) (by kernel_rfl) Try.underlying72 ⟨_, _, _, rfl⟩ nof
theorem ti73 : TIok Try.prog 73 (T 73) :=
  mk1 (d := _) (by kernel_rfl) Try.underlying73 ⟨_, _, _, rfl⟩ nof
theorem ti74 : TIok Try.prog 74 (T 74) :=
  mk1 (d := _) (by kernel_rfl) Try.underlying74 ⟨_, _, _, rfl⟩ nof
theorem ti75 : TIok Try.prog 75 (T 75) :=
  mk1 (d := _) (by kernel_rfl) Try.underlying75 ⟨_, _, _, rfl⟩ nof
theorem ti76 : TIok Try.prog 76 (T 76) :=
  mk1 (d := _) (by kernel_rfl) Try.underlying76 ⟨_, _, _, rfl⟩ nof
theorem ti77 : TIok Try.prog 77 (T 77) :=
  mk1 (d := _) (by kernel_rfl) Try.underlying77 ⟨_, _, _, rfl⟩ nof
theorem ti78 : TIok Try.prog 78 (T 78) :=
  mk1 (d := _) (by kernel_rfl) Try.underlying78 ⟨_, _, _, rfl⟩ nof
theorem ti79 : TIok Try.prog 79 (T 79) :=
  mk1 (d := _) (by kernel_rfl) Try.underlying79 ⟨_, _, _, rfl⟩ nof
theorem ti80 : TIok Try.prog 80 (T 80) :=
  mk1 (d := _) (by kernel_rfl) Try.underlying80 rfl nof
theorem ti81 : TIok Try.prog 81 (T 81) :=
  mk1 (d := _) (by kernel_rfl) Try.underlying81 rfl nof
theorem ti82 : TIok Try.prog 82 (T 82) :=
  mk1 (d := _) (by kernel_rfl) Try.underlying82 ⟨_, _, _, rfl⟩ nof
theorem ti84 : TIok Try.prog 84 (T 84) :=
  mk1 (d := _) (by kernel_rfl) Try.underlying84 ⟨_, _, _, rfl⟩ nof
theorem ti85 : TIok Try.prog 85 (T 85) :=
  mk1 (d := _) (by kernel_rfl) Try.underlying85 ⟨_, _, _, rfl⟩ nof
theorem ti87 : TIok Try.prog 87 (T 87) :=
  mk1 (d := _) (by kernel_rfl) Try.underlying87 ⟨_, _, _, rfl⟩ nof
theorem ti89 : TIok Try.prog 89 (T 89) :=
  mk1 (d := _) (by kernel_rfl) Try.underlying89 ⟨_, _, _, rfl⟩ nof
theorem ti90 : TIok Try.prog 90 (T 90) :=
  mk1 (d := _) (by kernel_rfl) Try.underlying90 ⟨_, _, _, rfl⟩ nof
theorem ti91 : TIok Try.prog 91 (T 91) :=
  mk1 (d := _) (by kernel_rfl) Try.underlying91 ⟨_, _, _, rfl⟩ nof
theorem ti92 : TIok Try.prog 92 (T 92) :=
  mk1 (d := _) (by kernel_rfl) Try.underlying92 ⟨_, _, _, rfl⟩ nof
theorem ti93 : TIok Try.prog 93 (T 93) :=
  mk1 (d := _) (by kernel_rfl) Try.underlying93 ⟨_, _, _, rfl⟩ nof
theorem ti94 : TIok Try.prog 94 (T 94) :=
  mk1 (d := _) (by kernel_rfl) Try.underlying94 rfl nof
theorem ti95 : TIok Try.prog 95 (T 95) :=
  mk1 (d := _) (by kernel_rfl) Try.underlying95 ⟨_, _, _, rfl⟩ nof
theorem ti96 : TIok Try.prog 96 (T 96) :=
  mk1 (d := _) (by kernel_rfl) Try.underlying96 ⟨_, _, _, rfl⟩ nof
theorem ti97 : TIok Try.prog 97 (T 97) :=
  mk1 (d := _) (by kernel_rfl) Try.underlying97 rfl nof
theorem ti98 : TIok Try.prog 98 (T 98) :=
  mk1 (d := _) (by kernel_rfl) Try.underlying98 ⟨_, _, _, rfl⟩ nof
theorem ti99 : TIok Try.prog 99 (T 99) :=
  mk1 (d := _) (by kernel_rfl) Try.underlying99 ⟨_, _, _, rfl⟩ nof
theorem ti100 : TIok Try.prog 100 (T 100) :=
  mk1 (d := _) (by kernel_rfl) Try.underlying100 ⟨_, _, _, rfl⟩ nof
theorem ti101 : TIok Try.prog 101 (T 101) :=
  mk1 (d := _) (by kernel_rfl) Try.underlying101 ⟨_, _, _, rfl⟩ nof
theorem ti102 : TIok Try.prog 102 (T 102) :=
  mk1 (d := _) (by kernel_rfl) Try.underlying102 ⟨_, _, _, rfl⟩ nof
theorem ti104 : TIok Try.prog 104 (T 104) :=
  mk1 (d := _) (by kernel_rfl) Try.underlying104 ⟨_, _, _, rfl⟩ nof
theorem ti105 : TIok Try.prog 105 (T 105) :=
  mk1 (d := _) (by kernel_rfl) Try.underlying105 ⟨_, _, _, rfl⟩ nof
theorem ti107 : TIok Try.prog 107 (T 107) :=
  mk1 (d := _) (by kernel_rfl) Try.underlying107 ⟨_, _, _, rfl⟩ nof
theorem ti108 : TIok Try.prog 108 (T 108) :=
  mk1 (d := _) (by kernel_rfl) Try.underlying108 ⟨_, _, _, rfl⟩ nof
theorem ti109 : TIok Try.prog 109 (T 109) :=
  mk1 (d := _) (by kernel_rfl) Try.underlying109 rfl nof
theorem ti110 : TIok Try.prog 110 (T 110) :=
  mk1 (d := _) (by kernel_rfl) Try.underlying110 ⟨_, _, _, rfl⟩ nof
theorem ti111 : TIok Try.prog 111 (T 111) :=
  mk1 (d := _) (by kernel_rfl) Try.underlying111 rfl nof
theorem ti112 : TIok Try.prog 112 (T 112) :=
  mk1 (d := _) (by kernel_rfl) Try.underlying112 rfl nof
theorem ti113 : TIok Try.prog 113 (T 113) :=
  mk1 (d := _) (by kernel_rfl) Try.underlying113 ⟨_, _, _, rfl⟩ nof
theorem ti114 : TIok Try.prog 114 (T 114) :=
  mk1 (d := _) (by kernel_rfl) Try.underlying114 ⟨_, _, _, rfl⟩ nof
theorem ti115 : TIok Try.prog 115 (T 115) :=
  mk1 (d := _) (by kernel_rfl) Try.underlying115 ⟨_, _, _, rfl⟩ nof
theorem ti116 : TIok Try.prog 116 (T 116) :=
  mk1 (d := _) (by kernel_rfl) Try.underlying116 ⟨_, _, _, rfl⟩ nof
theorem ti117 : TIok Try.prog 117 (T 117) :=
  mk1 (d := _) (by kernel_rfl) Try.underlying117 ⟨_, _, _, rfl⟩ nof
theorem ti118 : TIok Try.prog 118 (T 118) :=
  mk1 (d := _) (by kernel_rfl) Try.underlying118 ⟨_, _, _, rfl⟩ nof
theorem ti119 : TIok Try.prog 119 (T 119) :=
  mk1 (d := _) (by kernel_rfl) Try.underlying119 ⟨_, _, _, rfl⟩ nof
theorem ti120 : TIok Try.prog 120 (T 120) :=
  mk1 (d := _) (by kernel_rfl) Try.underlying120 ⟨_, _, _, rfl⟩ nof
theorem ti121 : TIok Try.prog 121 (T 121) :=
  mk1 (d := _) (by kernel_rfl) Try.underlying121 ⟨_, _, _, rfl⟩ nof
theorem ti122 : TIok Try.prog 122 (T 122) :=
  mk1 (d := _) (by kernel_rfl) Try.underlying122 ⟨_, _, _, rfl⟩ nof
theorem ti123 : TIok Try.prog 123 (T 123) :=
  mk1 (d := _) (by kernel_rfl) Try.underlying123 ⟨_, rfl, rfl⟩ nof
theorem ti124 : TIok Try.prog 124 (T 124) :=
  mk1 (d := _) (by kernel_rfl) Try.underlying124 ⟨_, rfl, rfl⟩ nof
theorem ti125 : TIok Try.prog 125 (T 125) :=
  mk1 (d := _) (by kernel_rfl) Try.underlying125 rfl nof
theorem ti126 : TIok Try.prog 126 (T 126) :=
  mk1 (d := _) (by kernel_rfl) Try.underlying126 ⟨_, rfl, rfl⟩ nof
theorem ti127 : TIok Try.prog 127 (T 127) :=
  mk1 (d := _) (by kernel_rfl) Try.underlying127 ⟨_, rfl, rfl⟩ nof
theorem ti128 : TIok Try.prog 128 (T 128) :=
  mk1 (d := _) (by kernel_rfl) Try.underlying128 ⟨_, _, _, rfl⟩ nof
theorem ti129 : TIok Try.prog 129 (T 129) :=
  mk1 (d := _) (by kernel_rfl) Try.underlying129 rfl nof
theorem ti130 : TIok Try.prog 130 (T 130) :=
  mk1 (d := _) (by kernel_rfl) Try.underlying130 rfl nof
theorem ti131 : TIok Try.prog 131 (T 131) :=
  mk1 (d := _) (by kernel_rfl) Try.underlying131 ⟨_, _, _, rfl⟩ nof
theorem ti132 : TIok Try.prog 132 (T 132) :=
  mk1 (d := _) (by kernel_rfl) Try.underlying132 rfl nof
theorem ti133 : TIok Try.prog 133 (T 133) :=
  mk1 (d := _) (by kernel_rfl) Try.underlying133 rfl nof
theorem ti134 : TIok Try.prog 134 (T 134) :=
  mk1 (d := _) (by kernel_rfl) Try.underlying134 rfl nof
theorem ti135 : TIok Try.prog 135 (T 135) :=
  mk1 (d := _) (by kernel_rfl) Try.underlying135 ⟨_, rfl, rfl⟩ nof
theorem ti136 : TIok Try.prog 136 (T 136) :=
  mk1 (d := _) (by kernel_rfl) Try.underlying136 ⟨_, rfl, rfl⟩ nof
@[go_sem] theorem T_1 : T 1 = ⟨.func, 1, 8, .nilFunc, false⟩ := rfl
@[go_sem] theorem T_2 : T 2 = ⟨.int .i64, 1, 8, .int .i64 0, false⟩ := rfl
@[go_sem] theorem T_3 : T 3 = ⟨.int .i64, 1, 8, .int .i64 0, false⟩ := rfl
@[go_sem] theorem T_4 : T 4 = ⟨.bool, 1, 1, .bool false, false⟩ := rfl
@[go_sem] theorem T_5 : T 5 = ⟨.int .u8, 1, 1, .int .u8 0, false⟩ := rfl
@[go_sem] theorem T_6 : T 6 = ⟨.int .u8, 1, 1, .int .u8 0, false⟩ := rfl
@[go_sem] theorem T_7 : T 7 = ⟨.struct [(2, 0), (3, 1), (4, 2), (6, 3)], 4, 24, .agg #[.int .i64 0, .int .i64 0, .bool false, .int .u8 0], false⟩ := rfl
@[go_sem] theorem T_8 : T 8 = ⟨.struct [(2, 0), (3, 1), (4, 2), (6, 3)], 4, 24, .agg #[.int .i64 0, .int .i64 0, .bool false, .int .u8 0], false⟩ := rfl
@[go_sem] theorem T_9 : T 9 = ⟨.str, 1, 16, .string ⟨#[]⟩, false⟩ := rfl
@[go_sem] theorem T_10 : T 10 = ⟨.str, 1, 16, .string ⟨#[]⟩, false⟩ := rfl
@[go_sem] theorem T_11 : T 11 = ⟨.str, 1, 16, .string ⟨#[]⟩, false⟩ := rfl
@[go_sem] theorem T_12 : T 12 = ⟨.int .u64, 1, 8, .int .u64 0, false⟩ := rfl
@[go_sem] theorem T_13 : T 13 = ⟨.struct [(9, 0), (12, 1)], 2, 24, .agg #[.string ⟨#[]⟩, .int .u64 0], false⟩ := rfl
@[go_sem] theorem T_14 : T 14 = ⟨.struct [(9, 0), (12, 1)], 2, 24, .agg #[.string ⟨#[]⟩, .int .u64 0], false⟩ := rfl
@[go_sem] theorem T_15 : T 15 = ⟨.ptr 124, 1, 8, .pointer none, false⟩ := rfl
@[go_sem] theorem T_16 : T 16 = ⟨.ptr 127, 1, 8, .pointer none, false⟩ := rfl
@[go_sem] theorem T_17 : T 17 = ⟨.ptr 136, 1, 8, .pointer none, false⟩ := rfl
@[go_sem] theorem T_18 : T 18 = ⟨.struct [(17, 0)], 1, 8, .agg #[.pointer none], false⟩ := rfl
@[go_sem] theorem T_19 : T 19 = ⟨.struct [(17, 0)], 1, 8, .agg #[.pointer none], false⟩ := rfl
@[go_sem] theorem T_21 : T 21 = ⟨.int .i32, 1, 4, .int .i32 0, false⟩ := rfl
@[go_sem] theorem T_22 : T 22 = ⟨.slice 28, 1, 24, .slice none 0 0, false⟩ := rfl
@[go_sem] theorem T_23 : T 23 = ⟨.slice 66, 1, 24, .slice none 0 0, false⟩ := rfl
@[go_sem] theorem T_24 : T 24 = ⟨.struct [(22, 0), (23, 1), (3, 2), (4, 3)], 4, 64, .agg #[.slice none 0 0, .slice none 0 0, .int .i64 0, .bool false], false⟩ := rfl
@[go_sem] theorem T_25 : T 25 = ⟨.struct [(22, 0), (23, 1), (3, 2), (4, 3)], 4, 64, .agg #[.slice none 0 0, .slice none 0 0, .int .i64 0, .bool false], false⟩ := rfl
@[go_sem] theorem T_26 : T 26 = ⟨.struct [(3, 0), (3, 1), (3, 2), (3, 3)], 4, 32, .agg #[.int .i64 0, .int .i64 0, .int .i64 0, .int .i64 0], false⟩ := rfl
@[go_sem] theorem T_27 : T 27 = ⟨.struct [(3, 0), (3, 1), (3, 2), (3, 3)], 4, 32, .agg #[.int .i64 0, .int .i64 0, .int .i64 0, .int .i64 0], true⟩ := rfl
@[go_sem] theorem T_28 : T 28 = ⟨.slice 5, 1, 24, .slice none 0 0, false⟩ := rfl
@[go_sem] theorem T_29 : T 29 = ⟨.struct [(25, 0), (27, 4), (28, 8), (3, 9)], 10, 128, .agg #[.slice none 0 0, .slice none 0 0, .int .i64 0, .bool false, .int .i64 0, .int .i64 0, .int .i64 0, .int .i64 0, .slice none 0 0, .int .i64 0], false⟩ := rfl
@[go_sem] theorem T_30 : T 30 = ⟨.struct [(25, 0), (27, 4), (28, 8), (3, 9)], 10, 128, .agg #[.slice none 0 0, .slice none 0 0, .int .i64 0, .bool false, .int .i64 0, .int .i64 0, .int .i64 0, .int .i64 0, .slice none 0 0, .int .i64 0], false⟩ := rfl
@[go_sem] theorem T_31 : T 31 = ⟨.func, 1, 8, .nilFunc, false⟩ := rfl
@[go_sem] theorem T_32 : T 32 = ⟨.func, 1, 8, .nilFunc, false⟩ := rfl
@[go_sem] theorem T_33 : T 33 = ⟨.int .i64, 1, 8, .int .i64 0, false⟩ := rfl
@[go_sem] theorem T_35 : T 35 = ⟨.func, 1, 8, .nilFunc, false⟩ := rfl
@[go_sem] theorem T_37 : T 37 = ⟨.func, 1, 8, .nilFunc, false⟩ := rfl
@[go_sem] theorem T_38 : T 38 = ⟨.func, 1, 8, .nilFunc, false⟩ := rfl
@[go_sem] theorem T_39 : T 39 = ⟨.func, 1, 8, .nilFunc, false⟩ := rfl
@[go_sem] theorem T_40 : T 40 = ⟨.func, 1, 8, .nilFunc, false⟩ := rfl
@[go_sem] theorem T_41 : T 41 = ⟨.func, 1, 8, .nilFunc, false⟩ := rfl
@[go_sem] theorem T_42 : T 42 = ⟨.func, 1, 8, .nilFunc, false⟩ := rfl
@[go_sem] theorem T_43 : T 43 = ⟨.slice 46, 1, 24, .slice none 0 0, false⟩ := rfl
@[go_sem] theorem T_44 : T 44 = ⟨.func, 1, 8, .nilFunc, false⟩ := rfl
@[go_sem] theorem T_45 : T 45 = ⟨.struct [(3, 0), (28, 1)], 2, 32, .agg #[.int .i64 0, .slice none 0 0], false⟩ := rfl
@[go_sem] theorem T_46 : T 46 = ⟨.struct [(3, 0), (28, 1)], 2, 32, .agg #[.int .i64 0, .slice none 0 0], false⟩ := rfl
@[go_sem] theorem T_47 : T 47 = ⟨.func, 1, 8, .nilFunc, false⟩ := rfl
@[go_sem] theorem T_48 : T 48 = ⟨.func, 1, 8, .nilFunc, false⟩ := rfl
@[go_sem] theorem T_50 : T 50 = ⟨.func, 1, 8, .nilFunc, false⟩ := rfl
@[go_sem] theorem T_51 : T 51 = ⟨.func, 1, 8, .nilFunc, false⟩ := rfl
@[go_sem] theorem T_52 : T 52 = ⟨.func, 1, 8, .nilFunc, false⟩ := rfl
@[go_sem] theorem T_54 : T 54 = ⟨.func, 1, 8, .nilFunc, false⟩ := rfl
@[go_sem] theorem T_56 : T 56 = ⟨.func, 1, 8, .nilFunc, false⟩ := rfl
@[go_sem] theorem T_58 : T 58 = ⟨.func, 1, 8, .nilFunc, false⟩ := rfl
@[go_sem] theorem T_59 : T 59 = ⟨.func, 1, 8, .nilFunc, false⟩ := rfl
@[go_sem] theorem T_60 : T 60 = ⟨.slice 62, 1, 24, .slice none 0 0, false⟩ := rfl
@[go_sem] theorem T_61 : T 61 = ⟨.func, 1, 8, .nilFunc, false⟩ := rfl
@[go_sem] theorem T_62 : T 62 = ⟨.slice 4, 1, 24, .slice none 0 0, false⟩ := rfl
@[go_sem] theorem T_63 : T 63 = ⟨.func, 1, 8, .nilFunc, false⟩ := rfl
@[go_sem] theorem T_64 : T 64 = ⟨.func, 1, 8, .nilFunc, false⟩ := rfl
@[go_sem] theorem T_65 : T 65 = ⟨.struct [(3, 0), (28, 1)], 2, 32, .agg #[.int .i64 0, .slice none 0 0], false⟩ := rfl
@[go_sem] theorem T_66 : T 66 = ⟨.struct [(3, 0), (28, 1)], 2, 32, .agg #[.int .i64 0, .slice none 0 0], false⟩ := rfl
@[go_sem] theorem T_68 : T 68 = ⟨.func, 1, 8, .nilFunc, false⟩ := rfl
@[go_sem] theorem T_69 : T 69 = ⟨.func, 1, 8, .nilFunc, false⟩ := rfl
@[go_sem] theorem T_70 : T 70 = ⟨.func, 1, 8, .nilFunc, false⟩ := rfl
@[go_sem] theorem T_71 : T 71 = ⟨.func, 1, 8, .nilFunc, false⟩ := rfl
@[go_sem] theorem T_72 : T 72 = ⟨.func, 1, 8, .nilFunc, false⟩ := rfl
@[go_sem] theorem T_73 : T 73 = ⟨.func, 1, 8, .nilFunc, false⟩ := rfl
@[go_sem] theorem T_74 : T 74 = ⟨.func, 1, 8, .nilFunc, false⟩ := rfl
@[go_sem] theorem T_75 : T 75 = ⟨.func, 1, 8, .nilFunc, false⟩ := rfl
@[go_sem] theorem T_76 : T 76 = ⟨.func, 1, 8, .nilFunc, false⟩ := rfl
@[go_sem] theorem T_77 : T 77 = ⟨.func, 1, 8, .nilFunc, false⟩ := rfl
@[go_sem] theorem T_78 : T 78 = ⟨.func, 1, 8, .nilFunc, false⟩ := rfl
@[go_sem] theorem T_79 : T 79 = ⟨.func, 1, 8, .nilFunc, false⟩ := rfl
@[go_sem] theorem T_80 : T 80 = ⟨.int .u64, 1, 8, .int .u64 0, false⟩ := rfl
@[go_sem] theorem T_81 : T 81 = ⟨.int .u32, 1, 4, .int .u32 0, false⟩ := rfl
@[go_sem] theorem T_82 : T 82 = ⟨.func, 1, 8, .nilFunc, false⟩ := rfl
@[go_sem] theorem T_84 : T 84 = ⟨.func, 1, 8, .nilFunc, false⟩ := rfl
@[go_sem] theorem T_85 : T 85 = ⟨.func, 1, 8, .nilFunc, false⟩ := rfl
@[go_sem] theorem T_87 : T 87 = ⟨.func, 1, 8, .nilFunc, false⟩ := rfl
@[go_sem] theorem T_89 : T 89 = ⟨.func, 1, 8, .nilFunc, false⟩ := rfl
@[go_sem] theorem T_90 : T 90 = ⟨.func, 1, 8, .nilFunc, false⟩ := rfl
@[go_sem] theorem T_91 : T 91 = ⟨.func, 1, 8, .nilFunc, false⟩ := rfl
@[go_sem] theorem T_92 : T 92 = ⟨.func, 1, 8, .nilFunc, false⟩ := rfl
@[go_sem] theorem T_93 : T 93 = ⟨.func, 1, 8, .nilFunc, false⟩ := rfl
@[go_sem] theorem T_94 : T 94 = ⟨.slice 71, 1, 24, .slice none 0 0, false⟩ := rfl
@[go_sem] theorem T_95 : T 95 = ⟨.func, 1, 8, .nilFunc, false⟩ := rfl
@[go_sem] theorem T_96 : T 96 = ⟨.func, 1, 8, .nilFunc, false⟩ := rfl
@[go_sem] theorem T_97 : T 97 = ⟨.ptr 25, 1, 8, .pointer none, false⟩ := rfl
@[go_sem] theorem T_98 : T 98 = ⟨.func, 1, 8, .nilFunc, false⟩ := rfl
@[go_sem] theorem T_99 : T 99 = ⟨.func, 1, 8, .nilFunc, false⟩ := rfl
@[go_sem] theorem T_100 : T 100 = ⟨.func, 1, 8, .nilFunc, false⟩ := rfl
@[go_sem] theorem T_101 : T 101 = ⟨.func, 1, 8, .nilFunc, false⟩ := rfl
@[go_sem] theorem T_102 : T 102 = ⟨.func, 1, 8, .nilFunc, false⟩ := rfl
@[go_sem] theorem T_104 : T 104 = ⟨.func, 1, 8, .nilFunc, false⟩ := rfl
@[go_sem] theorem T_105 : T 105 = ⟨.func, 1, 8, .nilFunc, false⟩ := rfl
@[go_sem] theorem T_107 : T 107 = ⟨.func, 1, 8, .nilFunc, false⟩ := rfl
@[go_sem] theorem T_108 : T 108 = ⟨.func, 1, 8, .nilFunc, false⟩ := rfl
@[go_sem] theorem T_109 : T 109 = ⟨.array 256 81, 256, 1024, .agg (Array.replicate 256 (.int .u32 0)), false⟩ := rfl
@[go_sem] theorem T_110 : T 110 = ⟨.func, 1, 8, .nilFunc, false⟩ := rfl
@[go_sem] theorem T_111 : T 111 = ⟨.int .u64, 1, 8, .int .u64 0, false⟩ := rfl
@[go_sem] theorem T_112 : T 112 = ⟨.array 4 5, 4, 4, .agg #[.int .u8 0, .int .u8 0, .int .u8 0, .int .u8 0], false⟩ := rfl
@[go_sem] theorem T_113 : T 113 = ⟨.func, 1, 8, .nilFunc, false⟩ := rfl
@[go_sem] theorem T_114 : T 114 = ⟨.func, 1, 8, .nilFunc, false⟩ := rfl
@[go_sem] theorem T_115 : T 115 = ⟨.func, 1, 8, .nilFunc, false⟩ := rfl
@[go_sem] theorem T_116 : T 116 = ⟨.func, 1, 8, .nilFunc, false⟩ := rfl
@[go_sem] theorem T_117 : T 117 = ⟨.func, 1, 8, .nilFunc, false⟩ := rfl
@[go_sem] theorem T_118 : T 118 = ⟨.func, 1, 8, .nilFunc, false⟩ := rfl
@[go_sem] theorem T_119 : T 119 = ⟨.func, 1, 8, .nilFunc, false⟩ := rfl
@[go_sem] theorem T_120 : T 120 = ⟨.func, 1, 8, .nilFunc, false⟩ := rfl
@[go_sem] theorem T_121 : T 121 = ⟨.func, 1, 8, .nilFunc, false⟩ := rfl
@[go_sem] theorem T_122 : T 122 = ⟨.func, 1, 8, .nilFunc, false⟩ := rfl
@[go_sem] theorem T_123 : T 123 = ⟨.struct [(17, 0), (17, 1), (17, 2), (9, 3)], 4, 40, .agg #[.pointer none, .pointer none, .pointer none, .string ⟨#[]⟩], false⟩ := rfl
@[go_sem] theorem T_124 : T 124 = ⟨.struct [(17, 0), (17, 1), (17, 2), (9, 3)], 4, 40, .agg #[.pointer none, .pointer none, .pointer none, .string ⟨#[]⟩], false⟩ := rfl
@[go_sem] theorem T_125 : T 125 = ⟨.array 0 16, 0, 0, .agg #[], false⟩ := rfl
@[go_sem] theorem T_126 : T 126 = ⟨.struct [(125, 0)], 0, 0, .agg #[], false⟩ := rfl
@[go_sem] theorem T_127 : T 127 = ⟨.struct [(125, 0)], 0, 0, .agg #[], false⟩ := rfl
@[go_sem] theorem T_128 : T 128 = ⟨.func, 1, 8, .nilFunc, false⟩ := rfl
@[go_sem] theorem T_129 : T 129 = ⟨.int .u8, 1, 1, .int .u8 0, false⟩ := rfl
@[go_sem] theorem T_130 : T 130 = ⟨.int .u8, 1, 1, .int .u8 0, false⟩ := rfl
@[go_sem] theorem T_131 : T 131 = ⟨.func, 1, 8, .nilFunc, false⟩ := rfl
@[go_sem] theorem T_132 : T 132 = ⟨.ptr 5, 1, 8, .pointer none, false⟩ := rfl
@[go_sem] theorem T_133 : T 133 = ⟨.int .i32, 1, 4, .int .i32 0, false⟩ := rfl
@[go_sem] theorem T_134 : T 134 = ⟨.int .i32, 1, 4, .int .i32 0, false⟩ := rfl
@[go_sem] theorem T_135 : T 135 = ⟨.struct [(12, 0), (12, 1), (81, 2), (129, 3), (5, 4), (5, 5), (130, 6), (131, 7), (132, 8), (133, 9), (134, 10)], 11, 48, .agg #[.int .u64 0, .int .u64 0, .int .u32 0, .int .u8 0, .int .u8 0, .int .u8 0, .int .u8 0, .nilFunc, .pointer none, .int .i32 0, .int .i32 0], false⟩ := rfl
@[go_sem] theorem T_136 : T 136 = ⟨.struct [(12, 0), (12, 1), (81, 2), (129, 3), (5, 4), (5, 5), (130, 6), (131, 7), (132, 8), (133, 9), (134, 10)], 11, 48, .agg #[.int .u64 0, .int .u64 0, .int .u32 0, .int .u8 0, .int .u8 0, .int .u8 0, .int .u8 0, .nilFunc, .pointer none, .int .i32 0, .int .i32 0], false⟩ := rfl
theorem tok : TOK Try.prog T := by
  intro t ⟨f, hf, hne⟩
  match t with
  | 0 => exact absurd (hf ▸ rfl) hne
  | 1 => exact ti1
  | 2 => exact ti2
  | 3 => exact ti3
  | 4 => exact ti4
  | 5 => exact ti5
  | 6 => exact ti6
  | 7 => exact ti7
  | 8 => exact ti8
  | 9 => exact ti9
  | 10 => exact ti10
  | 11 => exact ti11
  | 12 => exact ti12
  | 13 => exact ti13
  | 14 => exact ti14
  | 15 => exact ti15
  | 16 => exact ti16
  | 17 => exact ti17
  | 18 => exact ti18
  | 19 => exact ti19
  | 20 => exact absurd (hf ▸ rfl) hne
  | 21 => exact ti21
  | 22 => exact ti22
  | 23 => exact ti23
  | 24 => exact ti24
  | 25 => exact ti25
  | 26 => exact ti26
  | 27 => exact ti27
  | 28 => exact ti28
  | 29 => exact ti29
  | 30 => exact ti30
  | 31 => exact ti31
  | 32 => exact ti32
  | 33 => exact ti33
  | 34 => exact absurd (hf ▸ rfl) hne
  | 35 => exact ti35
  | 36 => exact absurd (hf ▸ rfl) hne
  | 37 => exact ti37
  | 38 => exact ti38
  | 39 => exact ti39
  | 40 => exact ti40
  | 41 => exact ti41
  | 42 => exact ti42
  | 43 => exact ti43
  | 44 => exact ti44
  | 45 => exact ti45
  | 46 => exact ti46
  | 47 => exact ti47
  | 48 => exact ti48
  | 49 => exact absurd (hf ▸ rfl) hne
  | 50 => exact ti50
  | 51 => exact ti51
  | 52 => exact ti52
  | 53 => exact absurd (hf ▸ rfl) hne
  | 54 => exact ti54
  | 55 => exact absurd (hf ▸ rfl) hne
  | 56 => exact ti56
  | 57 => exact absurd (hf ▸ rfl) hne
  | 58 => exact ti58
  | 59 => exact ti59
  | 60 => exact ti60
  | 61 => exact ti61
  | 62 => exact ti62
  | 63 => exact ti63
  | 64 => exact ti64
  | 65 => exact ti65
  | 66 => exact ti66
  | 67 => exact absurd (hf ▸ rfl) hne
  | 68 => exact ti68
  | 69 => exact ti69
  | 70 => exact ti70
  | 71 => exact ti71
  | 72 => exact ti72
  | 73 => exact ti73
  | 74 => exact ti74
  | 75 => exact ti75
  | 76 => exact ti76
  | 77 => exact ti77
  | 78 => exact ti78
  | 79 => exact ti79
  | 80 => exact ti80
  | 81 => exact ti81
  | 82 => exact ti82
  | 83 => exact absurd (hf ▸ rfl) hne
  | 84 => exact ti84
  | 85 => exact ti85
  | 86 => exact absurd (hf ▸ rfl) hne
  | 87 => exact ti87
  | 88 => exact absurd (hf ▸ rfl) hne
  | 89 => exact ti89
  | 90 => exact ti90
  | 91 => exact ti91
  | 92 => exact ti92
  | 93 => exact ti93
  | 94 => exact ti94
  | 95 => exact ti95
  | 96 => exact ti96
  | 97 => exact ti97
  | 98 => exact ti98
  | 99 => exact ti99
  | 100 => exact ti100
  | 101 => exact ti101
  | 102 => exact ti102
  | 103 => exact absurd (hf ▸ rfl) hne
  | 104 => exact ti104
  | 105 => exact ti105
  | 106 => exact absurd (hf ▸ rfl) hne
  | 107 => exact ti107
  | 108 => exact ti108
  | 109 => exact ti109
  | 110 => exact ti110
  | 111 => exact ti111
  | 112 => exact ti112
  | 113 => exact ti113
  | 114 => exact ti114
  | 115 => exact ti115
  | 116 => exact ti116
  | 117 => exact ti117
  | 118 => exact ti118
  | 119 => exact ti119
  | 120 => exact ti120
  | 121 => exact ti121
  | 122 => exact ti122
  | 123 => exact ti123
  | 124 => exact ti124
  | 125 => exact ti125
  | 126 => exact ti126
  | 127 => exact ti127
  | 128 => exact ti128
  | 129 => exact ti129
  | 130 => exact ti130
  | 131 => exact ti131
  | 132 => exact ti132
  | 133 => exact ti133
  | 134 => exact ti134
  | 135 => exact ti135
  | 136 => exact ti136
  | 137 => exact absurd (hf ▸ rfl) hne
  | k + 138 =>
    exfalso
    apply hne
    rw [← hf]
    rfl
abbrev n_bursarlaw06_WalCuts : FuncId := 6
abbrev n_bursarlaw04_Few : FuncId := 7
abbrev n_bursarlaw06_few : FuncId := 8
abbrev n_bursarref04_Copy : FuncId := 9
abbrev n_wal_Append : FuncId := 10
abbrev n_bursarref04_Same : FuncId := 12
abbrev n_wal_May : FuncId := 13
abbrev n_wal_Room : FuncId := 15
abbrev n_bursarlaw06_awake : FuncId := 17
abbrev n_bursarlaw06_some : FuncId := 18
abbrev n_bursarref05_May : FuncId := 19
abbrev n_bursarref05_Lay : FuncId := 20
abbrev n_wal_Scan : FuncId := 21
abbrev n_bursarref06_Same : FuncId := 22
abbrev n_wal_Clear : FuncId := 24
abbrev n_disk_Budget : FuncId := 27
abbrev n_disk_Crash : FuncId := 28
abbrev n_frame_Lay : FuncId := 29
abbrev n_wal_all : FuncId := 30
abbrev n_wal_write : FuncId := 31
abbrev n_wal_noughts : FuncId := 32
abbrev n_disk_Flush : FuncId := 33
abbrev n_disk_May : FuncId := 35
abbrev n_bursarref04_May : FuncId := 36
abbrev n_frame_Sectors : FuncId := 37
abbrev n_disk_New : FuncId := 38
abbrev n_bursarref03_Seal : FuncId := 39
abbrev n_bursarref05_Wide : FuncId := 40
abbrev n_bursarref03_Sum : FuncId := 41
abbrev n_wal_next : FuncId := 42
abbrev n_bursarref05_Read : FuncId := 44
abbrev n_disk_done : FuncId := 46
abbrev n_disk_Crash_1 : FuncId := 47
abbrev n_frame_May : FuncId := 48
abbrev n_frame_lay : FuncId := 49
abbrev n_check_Sum : FuncId := 50
abbrev n_check_Seal : FuncId := 51
abbrev n_wal_write_1 : FuncId := 52
abbrev n_disk_Write : FuncId := 53
abbrev n_disk_spend : FuncId := 54
abbrev n_disk_Flush_1 : FuncId := 55
abbrev n_disk_May_1 : FuncId := 56
abbrev n_slices_ContainsFunc_s_s_byte_s_byte : FuncId := 57
abbrev n_disk_May_2 : FuncId := 58
abbrev n_slices_ContainsFunc_s_api_Pending_api_Pending : FuncId := 59
abbrev n_disk_May_3 : FuncId := 60
abbrev n_disk_Read : FuncId := 61
abbrev n_frame_Head : FuncId := 62
abbrev n_frame_Read : FuncId := 63
abbrev n_bursarref05_Head : FuncId := 64
abbrev n_slices_Clone_s_s_byte_s_byte : FuncId := 65
abbrev n_check_words : FuncId := 66
abbrev n_check_octets : FuncId := 67
abbrev n_slices_Clone_s_byte_byte : FuncId := 68
abbrev n_disk_there : FuncId := 69
abbrev n_slices_IndexFunc_s_s_byte_s_byte : FuncId := 70
abbrev n_slices_IndexFunc_s_api_Pending_api_Pending : FuncId := 71
abbrev n_frame_number : FuncId := 72
abbrev n_check_Open : FuncId := 73
abbrev n_slices_ContainsFunc_s_byte_byte : FuncId := 74
abbrev n_frame_Read_1 : FuncId := 75
abbrev n_bursarref05_Number : FuncId := 76
abbrev n_slices_IndexFunc_s_byte_byte : FuncId := 77
theorem mix : Try.prog.follows .mixedOrders = true := by rfl
theorem at_bursarlaw06_WalCuts : FnAt Try.prog 6 := ⟨_, _, Try.func6, rfl, by simp [Try.f6]⟩
instance fnc_6 : FnC Try.prog 6 := ⟨at_bursarlaw06_WalCuts⟩
theorem at_bursarlaw04_Few : FnAt Try.prog 7 := ⟨_, _, Try.func7, rfl, by simp [Try.f7]⟩
instance fnc_7 : FnC Try.prog 7 := ⟨at_bursarlaw04_Few⟩
theorem at_bursarlaw06_few : FnAt Try.prog 8 := ⟨_, _, Try.func8, rfl, by simp [Try.f8]⟩
instance fnc_8 : FnC Try.prog 8 := ⟨at_bursarlaw06_few⟩
theorem at_bursarref04_Copy : FnAt Try.prog 9 := ⟨_, _, Try.func9, rfl, by simp [Try.f9]⟩
instance fnc_9 : FnC Try.prog 9 := ⟨at_bursarref04_Copy⟩
theorem at_wal_Append : FnAt Try.prog 10 := ⟨_, _, Try.func10, rfl, by simp [Try.f10]⟩
instance fnc_10 : FnC Try.prog 10 := ⟨at_wal_Append⟩
theorem at_bursarref04_Same : FnAt Try.prog 12 := ⟨_, _, Try.func12, rfl, by simp [Try.f12]⟩
instance fnc_12 : FnC Try.prog 12 := ⟨at_bursarref04_Same⟩
theorem at_wal_May : FnAt Try.prog 13 := ⟨_, _, Try.func13, rfl, by simp [Try.f13]⟩
instance fnc_13 : FnC Try.prog 13 := ⟨at_wal_May⟩
theorem at_wal_Room : FnAt Try.prog 15 := ⟨_, _, Try.func15, rfl, by simp [Try.f15]⟩
instance fnc_15 : FnC Try.prog 15 := ⟨at_wal_Room⟩
theorem at_bursarlaw06_awake : FnAt Try.prog 17 := ⟨_, _, Try.func17, rfl, by simp [Try.f17]⟩
instance fnc_17 : FnC Try.prog 17 := ⟨at_bursarlaw06_awake⟩
theorem at_bursarlaw06_some : FnAt Try.prog 18 := ⟨_, _, Try.func18, rfl, by simp [Try.f18]⟩
instance fnc_18 : FnC Try.prog 18 := ⟨at_bursarlaw06_some⟩
theorem at_bursarref05_May : FnAt Try.prog 19 := ⟨_, _, Try.func19, rfl, by simp [Try.f19]⟩
instance fnc_19 : FnC Try.prog 19 := ⟨at_bursarref05_May⟩
theorem at_bursarref05_Lay : FnAt Try.prog 20 := ⟨_, _, Try.func20, rfl, by simp [Try.f20]⟩
instance fnc_20 : FnC Try.prog 20 := ⟨at_bursarref05_Lay⟩
theorem at_wal_Scan : FnAt Try.prog 21 := ⟨_, _, Try.func21, rfl, by simp [Try.f21]⟩
instance fnc_21 : FnC Try.prog 21 := ⟨at_wal_Scan⟩
theorem at_bursarref06_Same : FnAt Try.prog 22 := ⟨_, _, Try.func22, rfl, by simp [Try.f22]⟩
instance fnc_22 : FnC Try.prog 22 := ⟨at_bursarref06_Same⟩
theorem at_wal_Clear : FnAt Try.prog 24 := ⟨_, _, Try.func24, rfl, by simp [Try.f24]⟩
instance fnc_24 : FnC Try.prog 24 := ⟨at_wal_Clear⟩
theorem at_disk_Budget : FnAt Try.prog 27 := ⟨_, _, Try.func27, rfl, by simp [Try.f27]⟩
instance fnc_27 : FnC Try.prog 27 := ⟨at_disk_Budget⟩
theorem at_disk_Crash : FnAt Try.prog 28 := ⟨_, _, Try.func28, rfl, by simp [Try.f28]⟩
instance fnc_28 : FnC Try.prog 28 := ⟨at_disk_Crash⟩
theorem at_frame_Lay : FnAt Try.prog 29 := ⟨_, _, Try.func29, rfl, by simp [Try.f29]⟩
instance fnc_29 : FnC Try.prog 29 := ⟨at_frame_Lay⟩
theorem at_wal_all : FnAt Try.prog 30 := ⟨_, _, Try.func30, rfl, by simp [Try.f30]⟩
instance fnc_30 : FnC Try.prog 30 := ⟨at_wal_all⟩
theorem at_wal_write : FnAt Try.prog 31 := ⟨_, _, Try.func31, rfl, by simp [Try.f31]⟩
instance fnc_31 : FnC Try.prog 31 := ⟨at_wal_write⟩
theorem at_wal_noughts : FnAt Try.prog 32 := ⟨_, _, Try.func32, rfl, by simp [Try.f32]⟩
instance fnc_32 : FnC Try.prog 32 := ⟨at_wal_noughts⟩
theorem at_disk_Flush : FnAt Try.prog 33 := ⟨_, _, Try.func33, rfl, by simp [Try.f33]⟩
instance fnc_33 : FnC Try.prog 33 := ⟨at_disk_Flush⟩
theorem at_disk_May : FnAt Try.prog 35 := ⟨_, _, Try.func35, rfl, by simp [Try.f35]⟩
instance fnc_35 : FnC Try.prog 35 := ⟨at_disk_May⟩
theorem at_bursarref04_May : FnAt Try.prog 36 := ⟨_, _, Try.func36, rfl, by simp [Try.f36]⟩
instance fnc_36 : FnC Try.prog 36 := ⟨at_bursarref04_May⟩
theorem at_frame_Sectors : FnAt Try.prog 37 := ⟨_, _, Try.func37, rfl, by simp [Try.f37]⟩
instance fnc_37 : FnC Try.prog 37 := ⟨at_frame_Sectors⟩
theorem at_disk_New : FnAt Try.prog 38 := ⟨_, _, Try.func38, rfl, by simp [Try.f38]⟩
instance fnc_38 : FnC Try.prog 38 := ⟨at_disk_New⟩
theorem at_bursarref03_Seal : FnAt Try.prog 39 := ⟨_, _, Try.func39, rfl, by simp [Try.f39]⟩
instance fnc_39 : FnC Try.prog 39 := ⟨at_bursarref03_Seal⟩
theorem at_bursarref05_Wide : FnAt Try.prog 40 := ⟨_, _, Try.func40, rfl, by simp [Try.f40]⟩
instance fnc_40 : FnC Try.prog 40 := ⟨at_bursarref05_Wide⟩
theorem at_bursarref03_Sum : FnAt Try.prog 41 := ⟨_, _, Try.func41, rfl, by simp [Try.f41]⟩
instance fnc_41 : FnC Try.prog 41 := ⟨at_bursarref03_Sum⟩
theorem at_wal_next : FnAt Try.prog 42 := ⟨_, _, Try.func42, rfl, by simp [Try.f42]⟩
instance fnc_42 : FnC Try.prog 42 := ⟨at_wal_next⟩
theorem at_bursarref05_Read : FnAt Try.prog 44 := ⟨_, _, Try.func44, rfl, by simp [Try.f44]⟩
instance fnc_44 : FnC Try.prog 44 := ⟨at_bursarref05_Read⟩
theorem at_disk_done : FnAt Try.prog 46 := ⟨_, _, Try.func46, rfl, by simp [Try.f46]⟩
instance fnc_46 : FnC Try.prog 46 := ⟨at_disk_done⟩
theorem at_disk_Crash_1 : FnAt Try.prog 47 := ⟨_, _, Try.func47, rfl, by simp [Try.f47]⟩
instance fnc_47 : FnC Try.prog 47 := ⟨at_disk_Crash_1⟩
theorem at_frame_May : FnAt Try.prog 48 := ⟨_, _, Try.func48, rfl, by simp [Try.f48]⟩
instance fnc_48 : FnC Try.prog 48 := ⟨at_frame_May⟩
theorem at_frame_lay : FnAt Try.prog 49 := ⟨_, _, Try.func49, rfl, by simp [Try.f49]⟩
instance fnc_49 : FnC Try.prog 49 := ⟨at_frame_lay⟩
theorem at_check_Sum : FnAt Try.prog 50 := ⟨_, _, Try.func50, rfl, by simp [Try.f50]⟩
instance fnc_50 : FnC Try.prog 50 := ⟨at_check_Sum⟩
theorem at_check_Seal : FnAt Try.prog 51 := ⟨_, _, Try.func51, rfl, by simp [Try.f51]⟩
instance fnc_51 : FnC Try.prog 51 := ⟨at_check_Seal⟩
theorem at_wal_write_1 : FnAt Try.prog 52 := ⟨_, _, Try.func52, rfl, by simp [Try.f52]⟩
instance fnc_52 : FnC Try.prog 52 := ⟨at_wal_write_1⟩
theorem at_disk_Write : FnAt Try.prog 53 := ⟨_, _, Try.func53, rfl, by simp [Try.f53]⟩
instance fnc_53 : FnC Try.prog 53 := ⟨at_disk_Write⟩
theorem at_disk_spend : FnAt Try.prog 54 := ⟨_, _, Try.func54, rfl, by simp [Try.f54]⟩
instance fnc_54 : FnC Try.prog 54 := ⟨at_disk_spend⟩
theorem at_disk_Flush_1 : FnAt Try.prog 55 := ⟨_, _, Try.func55, rfl, by simp [Try.f55]⟩
instance fnc_55 : FnC Try.prog 55 := ⟨at_disk_Flush_1⟩
theorem at_disk_May_1 : FnAt Try.prog 56 := ⟨_, _, Try.func56, rfl, by simp [Try.f56]⟩
instance fnc_56 : FnC Try.prog 56 := ⟨at_disk_May_1⟩
theorem at_slices_ContainsFunc_s_s_byte_s_byte : FnAt Try.prog 57 := ⟨_, _, Try.func57, rfl, by simp [Try.f57]⟩
instance fnc_57 : FnC Try.prog 57 := ⟨at_slices_ContainsFunc_s_s_byte_s_byte⟩
theorem at_disk_May_2 : FnAt Try.prog 58 := ⟨_, _, Try.func58, rfl, by simp [Try.f58]⟩
instance fnc_58 : FnC Try.prog 58 := ⟨at_disk_May_2⟩
theorem at_slices_ContainsFunc_s_api_Pending_api_Pending : FnAt Try.prog 59 := ⟨_, _, Try.func59, rfl, by simp [Try.f59]⟩
instance fnc_59 : FnC Try.prog 59 := ⟨at_slices_ContainsFunc_s_api_Pending_api_Pending⟩
theorem at_disk_May_3 : FnAt Try.prog 60 := ⟨_, _, Try.func60, rfl, by simp [Try.f60]⟩
instance fnc_60 : FnC Try.prog 60 := ⟨at_disk_May_3⟩
theorem at_disk_Read : FnAt Try.prog 61 := ⟨_, _, Try.func61, rfl, by simp [Try.f61]⟩
instance fnc_61 : FnC Try.prog 61 := ⟨at_disk_Read⟩
theorem at_frame_Head : FnAt Try.prog 62 := ⟨_, _, Try.func62, rfl, by simp [Try.f62]⟩
instance fnc_62 : FnC Try.prog 62 := ⟨at_frame_Head⟩
theorem at_frame_Read : FnAt Try.prog 63 := ⟨_, _, Try.func63, rfl, by simp [Try.f63]⟩
instance fnc_63 : FnC Try.prog 63 := ⟨at_frame_Read⟩
theorem at_bursarref05_Head : FnAt Try.prog 64 := ⟨_, _, Try.func64, rfl, by simp [Try.f64]⟩
instance fnc_64 : FnC Try.prog 64 := ⟨at_bursarref05_Head⟩
theorem at_slices_Clone_s_s_byte_s_byte : FnAt Try.prog 65 := ⟨_, _, Try.func65, rfl, by simp [Try.f65]⟩
instance fnc_65 : FnC Try.prog 65 := ⟨at_slices_Clone_s_s_byte_s_byte⟩
theorem at_check_words : FnAt Try.prog 66 := ⟨_, _, Try.func66, rfl, by simp [Try.f66]⟩
instance fnc_66 : FnC Try.prog 66 := ⟨at_check_words⟩
theorem at_check_octets : FnAt Try.prog 67 := ⟨_, _, Try.func67, rfl, by simp [Try.f67]⟩
instance fnc_67 : FnC Try.prog 67 := ⟨at_check_octets⟩
theorem at_slices_Clone_s_byte_byte : FnAt Try.prog 68 := ⟨_, _, Try.func68, rfl, by simp [Try.f68]⟩
instance fnc_68 : FnC Try.prog 68 := ⟨at_slices_Clone_s_byte_byte⟩
theorem at_disk_there : FnAt Try.prog 69 := ⟨_, _, Try.func69, rfl, by simp [Try.f69]⟩
instance fnc_69 : FnC Try.prog 69 := ⟨at_disk_there⟩
theorem at_slices_IndexFunc_s_s_byte_s_byte : FnAt Try.prog 70 := ⟨_, _, Try.func70, rfl, by simp [Try.f70]⟩
instance fnc_70 : FnC Try.prog 70 := ⟨at_slices_IndexFunc_s_s_byte_s_byte⟩
theorem at_slices_IndexFunc_s_api_Pending_api_Pending : FnAt Try.prog 71 := ⟨_, _, Try.func71, rfl, by simp [Try.f71]⟩
instance fnc_71 : FnC Try.prog 71 := ⟨at_slices_IndexFunc_s_api_Pending_api_Pending⟩
theorem at_frame_number : FnAt Try.prog 72 := ⟨_, _, Try.func72, rfl, by simp [Try.f72]⟩
instance fnc_72 : FnC Try.prog 72 := ⟨at_frame_number⟩
theorem at_check_Open : FnAt Try.prog 73 := ⟨_, _, Try.func73, rfl, by simp [Try.f73]⟩
instance fnc_73 : FnC Try.prog 73 := ⟨at_check_Open⟩
theorem at_slices_ContainsFunc_s_byte_byte : FnAt Try.prog 74 := ⟨_, _, Try.func74, rfl, by simp [Try.f74]⟩
instance fnc_74 : FnC Try.prog 74 := ⟨at_slices_ContainsFunc_s_byte_byte⟩
theorem at_frame_Read_1 : FnAt Try.prog 75 := ⟨_, _, Try.func75, rfl, by simp [Try.f75]⟩
instance fnc_75 : FnC Try.prog 75 := ⟨at_frame_Read_1⟩
theorem at_bursarref05_Number : FnAt Try.prog 76 := ⟨_, _, Try.func76, rfl, by simp [Try.f76]⟩
instance fnc_76 : FnC Try.prog 76 := ⟨at_bursarref05_Number⟩
theorem at_slices_IndexFunc_s_byte_byte : FnAt Try.prog 77 := ⟨_, _, Try.func77, rfl, by simp [Try.f77]⟩
instance fnc_77 : FnC Try.prog 77 := ⟨at_slices_IndexFunc_s_byte_byte⟩
end Go.Proofs.Ytlfnmgmbmgacgaa
