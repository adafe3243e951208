/- The types of the program of this seat as a table, and that they are the program's; names for its functions. -/
import Derived.Test.YtpeleigbmboceaaProg
import Derived.Test.YtpeleigbmboceaaVM5
import Derived.KernelRfl
namespace Go.Proofs.Ytpeleigbmboceaa
open Go Go.Val
set_option maxRecDepth 100000

def tab : List TI := [
  ⟨.other, 0, 0, .nilFunc, false⟩,
  ⟨.func, 1, 8, .nilFunc, false⟩,
  ⟨.int .i64, 1, 8, .int .i64 0, false⟩,
  ⟨.int .i64, 1, 8, .int .i64 0, false⟩,
  ⟨.bool, 1, 1, .bool false, false⟩,
  ⟨.int .u8, 1, 1, .int .u8 0, false⟩,
  ⟨.int .u8, 1, 1, .int .u8 0, false⟩,
  ⟨.struct [(2, 0), (3, 1), (4, 2), (6, 3)], 4, 24, .agg #[.int .i64 0, .int .i64 0, .bool false, .int .u8 0], false⟩,
  ⟨.struct [(2, 0), (3, 1), (4, 2), (6, 3)], 4, 24, .agg #[.int .i64 0, .int .i64 0, .bool false, .int .u8 0], false⟩,
  ⟨.str, 1, 16, .string ⟨#[]⟩, false⟩,
  ⟨.str, 1, 16, .string ⟨#[]⟩, false⟩,
  ⟨.str, 1, 16, .string ⟨#[]⟩, false⟩,
  ⟨.int .u64, 1, 8, .int .u64 0, false⟩,
  ⟨.struct [(9, 0), (12, 1)], 2, 24, .agg #[.string ⟨#[]⟩, .int .u64 0], false⟩,
  ⟨.struct [(9, 0), (12, 1)], 2, 24, .agg #[.string ⟨#[]⟩, .int .u64 0], false⟩,
  ⟨.ptr 51, 1, 8, .pointer none, false⟩,
  ⟨.ptr 54, 1, 8, .pointer none, false⟩,
  ⟨.ptr 63, 1, 8, .pointer none, false⟩,
  ⟨.struct [(17, 0)], 1, 8, .agg #[.pointer none], false⟩,
  ⟨.struct [(17, 0)], 1, 8, .agg #[.pointer none], false⟩,
  ⟨.other, 0, 0, .nilFunc, false⟩,
  ⟨.int .i32, 1, 4, .int .i32 0, false⟩,
  ⟨.struct [(3, 0), (3, 1)], 2, 16, .agg #[.int .i64 0, .int .i64 0], false⟩,
  ⟨.struct [(3, 0), (3, 1)], 2, 16, .agg #[.int .i64 0, .int .i64 0], true⟩,
  ⟨.func, 1, 8, .nilFunc, false⟩,
  ⟨.func, 1, 8, .nilFunc, false⟩,
  ⟨.map 3 4, 1, 8, .map none, false⟩,
  ⟨.int .i64, 1, 8, .int .i64 0, false⟩,
  ⟨.other, 0, 0, .nilFunc, false⟩,
  ⟨.func, 1, 8, .nilFunc, false⟩,
  ⟨.func, 1, 8, .nilFunc, false⟩,
  ⟨.func, 1, 8, .nilFunc, false⟩,
  ⟨.func, 1, 8, .nilFunc, false⟩,
  ⟨.slice 5, 1, 24, .slice none 0 0, false⟩,
  ⟨.other, 0, 0, .nilFunc, false⟩,
  ⟨.func, 1, 8, .nilFunc, false⟩,
  ⟨.struct [(3, 0), (3, 1), (3, 2), (3, 3)], 4, 32, .agg #[.int .i64 0, .int .i64 0, .int .i64 0, .int .i64 0], false⟩,
  ⟨.struct [(3, 0), (3, 1), (3, 2), (3, 3)], 4, 32, .agg #[.int .i64 0, .int .i64 0, .int .i64 0, .int .i64 0], true⟩,
  ⟨.func, 1, 8, .nilFunc, false⟩,
  ⟨.func, 1, 8, .nilFunc, false⟩,
  ⟨.func, 1, 8, .nilFunc, false⟩,
  ⟨.array 4 5, 4, 4, .agg #[.int .u8 0, .int .u8 0, .int .u8 0, .int .u8 0], false⟩,
  ⟨.func, 1, 8, .nilFunc, false⟩,
  ⟨.int .u32, 1, 4, .int .u32 0, false⟩,
  ⟨.func, 1, 8, .nilFunc, false⟩,
  ⟨.int .u64, 1, 8, .int .u64 0, false⟩,
  ⟨.slice 33, 1, 24, .slice none 0 0, false⟩,
  ⟨.array 256 43, 256, 1024, .agg (Array.replicate 256 (.int .u32 0)), false⟩,
  ⟨.func, 1, 8, .nilFunc, false⟩,
  ⟨.func, 1, 8, .nilFunc, false⟩,
  ⟨.struct [(17, 0), (17, 1), (17, 2), (9, 3)], 4, 40, .agg #[.pointer none, .pointer none, .pointer none, .string ⟨#[]⟩], false⟩,
  ⟨.struct [(17, 0), (17, 1), (17, 2), (9, 3)], 4, 40, .agg #[.pointer none, .pointer none, .pointer none, .string ⟨#[]⟩], false⟩,
  ⟨.array 0 16, 0, 0, .agg #[], false⟩,
  ⟨.struct [(52, 0)], 0, 0, .agg #[], false⟩,
  ⟨.struct [(52, 0)], 0, 0, .agg #[], false⟩,
  ⟨.func, 1, 8, .nilFunc, false⟩,
  ⟨.int .u8, 1, 1, .int .u8 0, false⟩,
  ⟨.int .u8, 1, 1, .int .u8 0, false⟩,
  ⟨.func, 1, 8, .nilFunc, false⟩,
  ⟨.ptr 5, 1, 8, .pointer none, false⟩,
  ⟨.int .i32, 1, 4, .int .i32 0, false⟩,
  ⟨.int .i32, 1, 4, .int .i32 0, false⟩,
  ⟨.struct [(12, 0), (12, 1), (43, 2), (56, 3), (5, 4), (5, 5), (57, 6), (58, 7), (59, 8), (60, 9), (61, 10)], 11, 48, .agg #[.int .u64 0, .int .u64 0, .int .u32 0, .int .u8 0, .int .u8 0, .int .u8 0, .int .u8 0, .nilFunc, .pointer none, .int .i32 0, .int .i32 0], false⟩,
  ⟨.struct [(12, 0), (12, 1), (43, 2), (56, 3), (5, 4), (5, 5), (57, 6), (58, 7), (59, 8), (60, 9), (61, 10)], 11, 48, .agg #[.int .u64 0, .int .u64 0, .int .u32 0, .int .u8 0, .int .u8 0, .int .u8 0, .int .u8 0, .nilFunc, .pointer none, .int .i32 0, .int .i32 0], false⟩,
  ⟨.other, 0, 0, .nilFunc, false⟩]
def T (t : TypeId) : TI := tab.getD t ⟨.other, 0, 0, .nilFunc, false⟩

def TIok (P : Program) (t : TypeId) (ti : TI) : Prop :=
    ∃ i d, P.info? t = some i ∧ P.underlying t = some d ∧ TyRel ti.ty d ∧ i.size = ti.size ∧ i.bytes = ti.bytes ∧ i.zero = some ti.zero ∧ (ti.eqok = true → P.stoodInHeld t = false ∧ P.eqGuardType P.depth t = false ∧ ∃ gs, P.underlying t = some (.struct gs) ∧ ∀ f ∈ gs.toList, f.name ≠ "_")
theorem mk1 {P : Program} {t : TypeId} {ti : TI} {d : TypeDesc} (h : (P.info? t).map (fun i => (i.zero, i.size, i.bytes)) = some (some ti.zero, ti.size, ti.bytes)) (u : P.underlying t = some d) (r : TyRel ti.ty d)
    (e : ti.eqok = true → P.stoodInHeld t = false ∧ P.eqGuardType P.depth t = false ∧ ∃ gs, P.underlying t = some (.struct gs) ∧ ∀ f ∈ gs.toList, f.name ≠ "_") :
    TIok P t ti := by
  simp only [Option.map_eq_some_iff, Prod.mk.injEq] at h
  obtain ⟨i, hi, h1, h2, h3⟩ := h
  exact ⟨i, d, hi, u, r, h2, h3, h1, e⟩

theorem ti1 : TIok Try.prog 1 (T 1) :=
  mk1 (d := _) (by kernel_rfl) Try.underlying1 ⟨_, _, _, rfl⟩ (fun h => Bool.noConfusion (show false = true from h))
theorem ti2 : TIok Try.prog 2 (T 2) :=
  mk1 (d := _) (by kernel_rfl) Try.underlying2 rfl (fun h => Bool.noConfusion (show false = true from h))
theorem ti3 : TIok Try.prog 3 (T 3) :=
  mk1 (d := _) (by kernel_rfl) Try.underlying3 rfl (fun h => Bool.noConfusion (show false = true from h))
theorem ti4 : TIok Try.prog 4 (T 4) :=
  mk1 (d := _) (by kernel_rfl) Try.underlying4 rfl (fun h => Bool.noConfusion (show false = true from h))
theorem ti5 : TIok Try.prog 5 (T 5) :=
  mk1 (d := _) (by kernel_rfl) Try.underlying5 rfl (fun h => Bool.noConfusion (show false = true from h))
theorem ti6 : TIok Try.prog 6 (T 6) :=
  mk1 (d := _) (by kernel_rfl) Try.underlying6 rfl (fun h => Bool.noConfusion (show false = true from h))
theorem ti7 : TIok Try.prog 7 (T 7) :=
  mk1 (d := _) (by kernel_rfl) Try.underlying7 ⟨_, rfl, rfl⟩ (fun h => Bool.noConfusion (show false = true from h))
theorem ti8 : TIok Try.prog 8 (T 8) :=
  mk1 (d := _) (by kernel_rfl) Try.underlying8 ⟨_, rfl, rfl⟩ (fun h => Bool.noConfusion (show false = true from h))
theorem ti9 : TIok Try.prog 9 (T 9) :=
  mk1 (d := _) (by kernel_rfl) Try.underlying9 rfl (fun h => Bool.noConfusion (show false = true from h))
theorem ti10 : TIok Try.prog 10 (T 10) :=
  mk1 (d := _) (by kernel_rfl) Try.underlying10 rfl (fun h => Bool.noConfusion (show false = true from h))
theorem ti11 : TIok Try.prog 11 (T 11) :=
  mk1 (d := _) (by kernel_rfl) Try.underlying11 rfl (fun h => Bool.noConfusion (show false = true from h))
theorem ti12 : TIok Try.prog 12 (T 12) :=
  mk1 (d := _) (by kernel_rfl) Try.underlying12 rfl (fun h => Bool.noConfusion (show false = true from h))
theorem ti13 : TIok Try.prog 13 (T 13) :=
  mk1 (d := _) (by kernel_rfl) Try.underlying13 ⟨_, rfl, rfl⟩ (fun h => Bool.noConfusion (show false = true from h))
theorem ti14 : TIok Try.prog 14 (T 14) :=
  mk1 (d := _) (by kernel_rfl) Try.underlying14 ⟨_, rfl, rfl⟩ (fun h => Bool.noConfusion (show false = true from h))
theorem ti15 : TIok Try.prog 15 (T 15) :=
  mk1 (d := _) (by kernel_rfl) Try.underlying15 rfl (fun h => Bool.noConfusion (show false = true from h))
theorem ti16 : TIok Try.prog 16 (T 16) :=
  mk1 (d := _) (by kernel_rfl) Try.underlying16 rfl (fun h => Bool.noConfusion (show false = true from h))
theorem ti17 : TIok Try.prog 17 (T 17) :=
  mk1 (d := _) (by kernel_rfl) Try.underlying17 rfl (fun h => Bool.noConfusion (show false = true from h))
theorem ti18 : TIok Try.prog 18 (T 18) :=
  mk1 (d := _) (by kernel_rfl) Try.underlying18 ⟨_, rfl, rfl⟩ (fun h => Bool.noConfusion (show false = true from h))
theorem ti19 : TIok Try.prog 19 (T 19) :=
  mk1 (d := _) (by kernel_rfl) Try.underlying19 ⟨_, rfl, rfl⟩ (fun h => Bool.noConfusion (show false = true from h))
theorem ti21 : TIok Try.prog 21 (T 21) :=
  mk1 (d := _) (by kernel_rfl) Try.underlying21 rfl (fun h => Bool.noConfusion (show false = true from h))
theorem ti22 : TIok Try.prog 22 (T 22) :=
  mk1 (d := _) (by kernel_rfl) Try.underlying22 ⟨_, rfl, rfl⟩ (fun h => Bool.noConfusion (show false = true from h))
theorem ti23 : TIok Try.prog 23 (T 23) :=
  mk1 (d := _) (by kernel_rfl) Try.underlying23 ⟨_, rfl, rfl⟩ (fun _ => ⟨by kernel_rfl, by kernel_rfl, _, Try.underlying23, by simp⟩)
theorem ti24 : TIok Try.prog 24 (T 24) :=
  mk1 (d := _) (by kernel_rfl) Try.underlying24 ⟨_, _, _, rfl⟩ (fun h => Bool.noConfusion (show false = true from h))
theorem ti25 : TIok Try.prog 25 (T 25) :=
  mk1 (d := _) (by kernel_rfl) Try.underlying25 ⟨_, _, _, rfl⟩ (fun h => Bool.noConfusion (show false = true from h))
theorem ti26 : TIok Try.prog 26 (T 26) :=
  mk1 (d := _) (by kernel_rfl) Try.underlying26 rfl (fun h => Bool.noConfusion (show false = true from h))
theorem ti27 : TIok Try.prog 27 (T 27) :=
  mk1 (d := _) (by kernel_rfl) Try.underlying27 rfl (fun h => Bool.noConfusion (show false = true from h))
theorem ti29 : TIok Try.prog 29 (T 29) :=
  mk1 (d := _) (by kernel_rfl) Try.underlying29 ⟨_, _, _, rfl⟩ (fun h => Bool.noConfusion (show false = true from h))
theorem ti30 : TIok Try.prog 30 (T 30) :=
  mk1 (d := _) (by kernel_rfl) Try.underlying30 ⟨_, _, _, rfl⟩ (fun h => Bool.noConfusion (show false = true from h))
theorem ti31 : TIok Try.prog 31 (T 31) :=
  mk1 (d := _) (by kernel_rfl) Try.underlying31 ⟨_, _, _, rfl⟩ (fun h => Bool.noConfusion (show false = true from h))
theorem ti32 : TIok Try.prog 32 (T 32) :=
  mk1 (d := _) (by kernel_rfl) Try.underlying32 ⟨_, _, _, rfl⟩ (fun h => Bool.noConfusion (show false = true from h))
theorem ti33 : TIok Try.prog 33 (T 33) :=
  mk1 (d := _) (by kernel_rfl) Try.underlying33 rfl (fun h => Bool.noConfusion (show false = true from h))
theorem ti35 : TIok Try.prog 35 (T 35) :=
  mk1 (d := _) (by kernel_rfl) Try.underlying35 ⟨_, _, _, rfl⟩ (fun h => Bool.noConfusion (show false = true from h))
theorem ti36 : TIok Try.prog 36 (T 36) :=
  mk1 (d := _) (by kernel_rfl) Try.underlying36 ⟨_, rfl, rfl⟩ (fun h => Bool.noConfusion (show false = true from h))
theorem ti37 : TIok Try.prog 37 (T 37) :=
  mk1 (d := _) (by kernel_rfl) Try.underlying37 ⟨_, rfl, rfl⟩ (fun _ => ⟨by kernel_rfl, by kernel_rfl, _, Try.underlying37, by simp⟩)
theorem ti38 : TIok Try.prog 38 (T 38) :=
  mk1 (d := _) (by kernel_rfl) Try.underlying38 ⟨_, _, _, rfl⟩ (fun h => Bool.noConfusion (show false = true from h))
theorem ti39 : TIok Try.prog 39 (T 39) :=
  mk1 (d := _) (by kernel_rfl) Try.underlying39 ⟨_, _, _, rfl⟩ (fun h => Bool.noConfusion (show false = true from h))
theorem ti40 : TIok Try.prog 40 (T 40) :=
  mk1 (d := _) (by kernel_rfl) Try.underlying40 ⟨_, _, _, rfl⟩ (fun h => Bool.noConfusion (show false = true from h))
theorem ti41 : TIok Try.prog 41 (T 41) :=
  mk1 (d := _) (by kernel_rfl) Try.underlying41 rfl (fun h => Bool.noConfusion (show false = true from h))
theorem ti42 : TIok Try.prog 42 (T 42) :=
  mk1 (d := _) (by kernel_rfl) Try.underlying42 ⟨_, _, _, rfl⟩ (fun h => Bool.noConfusion (show false = true from h))
theorem ti43 : TIok Try.prog 43 (T 43) :=
  mk1 (d := _) (by kernel_rfl) Try.underlying43 rfl (fun h => Bool.noConfusion (show false = true from h))
theorem ti44 : TIok Try.prog 44 (T 44) :=
  mk1 (d := _) (by kernel_rfl) Try.underlying44 ⟨_, _, _, rfl⟩ (fun h => Bool.noConfusion (show false = true from h))
theorem ti45 : TIok Try.prog 45 (T 45) :=
  mk1 (d := _) (by kernel_rfl) Try.underlying45 rfl (fun h => Bool.noConfusion (show false = true from h))
theorem ti46 : TIok Try.prog 46 (T 46) :=
  mk1 (d := _) (by kernel_rfl) Try.underlying46 rfl (fun h => Bool.noConfusion (show false = true from h))
theorem ti47 : TIok Try.prog 47 (T 47) :=
  mk1 (d := _) (by kernel_rfl) Try.underlying47 rfl (fun h => Bool.noConfusion (show false = true from h))
theorem ti48 : TIok Try.prog 48 (T 48) :=
  mk1 (d := _) (by kernel_rfl) Try.underlying48 ⟨_, _, _, rfl⟩ (fun h => Bool.noConfusion (show false = true from h))
theorem ti49 : TIok Try.prog 49 (T 49) :=
  mk1 (d := _) (by kernel_rfl) Try.underlying49 ⟨_, _, _, rfl⟩ (fun h => Bool.noConfusion (show false = true from h))
theorem ti50 : TIok Try.prog 50 (T 50) :=
  mk1 (d := _) (by kernel_rfl) Try.underlying50 ⟨_, rfl, rfl⟩ (fun h => Bool.noConfusion (show false = true from h))
theorem ti51 : TIok Try.prog 51 (T 51) :=
  mk1 (d := _) (by kernel_rfl) Try.underlying51 ⟨_, rfl, rfl⟩ (fun h => Bool.noConfusion (show false = true from h))
theorem ti52 : TIok Try.prog 52 (T 52) :=
  mk1 (d := _) (by kernel_rfl) Try.underlying52 rfl (fun h => Bool.noConfusion (show false = true from h))
theorem ti53 : TIok Try.prog 53 (T 53) :=
  mk1 (d := _) (by kernel_rfl) Try.underlying53 ⟨_, rfl, rfl⟩ (fun h => Bool.noConfusion (show false = true from h))
theorem ti54 : TIok Try.prog 54 (T 54) :=
  mk1 (d := _) (by kernel_rfl) Try.underlying54 ⟨_, rfl, rfl⟩ (fun h => Bool.noConfusion (show false = true from h))
theorem ti55 : TIok Try.prog 55 (T 55) :=
  mk1 (d := _) (by kernel_rfl) Try.underlying55 ⟨_, _, _, rfl⟩ (fun h => Bool.noConfusion (show false = true from h))
theorem ti56 : TIok Try.prog 56 (T 56) :=
  mk1 (d := _) (by kernel_rfl) Try.underlying56 rfl (fun h => Bool.noConfusion (show false = true from h))
theorem ti57 : TIok Try.prog 57 (T 57) :=
  mk1 (d := _) (by kernel_rfl) Try.underlying57 rfl (fun h => Bool.noConfusion (show false = true from h))
theorem ti58 : TIok Try.prog 58 (T 58) :=
  mk1 (d := _) (by kernel_rfl) Try.underlying58 ⟨_, _, _, rfl⟩ (fun h => Bool.noConfusion (show false = true from h))
theorem ti59 : TIok Try.prog 59 (T 59) :=
  mk1 (d := _) (by kernel_rfl) Try.underlying59 rfl (fun h => Bool.noConfusion (show false = true from h))
theorem ti60 : TIok Try.prog 60 (T 60) :=
  mk1 (d := _) (by kernel_rfl) Try.underlying60 rfl (fun h => Bool.noConfusion (show false = true from h))
theorem ti61 : TIok Try.prog 61 (T 61) :=
  mk1 (d := _) (by kernel_rfl) Try.underlying61 rfl (fun h => Bool.noConfusion (show false = true from h))
theorem ti62 : TIok Try.prog 62 (T 62) :=
  mk1 (d := _) (by kernel_rfl) Try.underlying62 ⟨_, rfl, rfl⟩ (fun h => Bool.noConfusion (show false = true from h))
theorem ti63 : TIok Try.prog 63 (T 63) :=
  mk1 (d := _) (by kernel_rfl) Try.underlying63 ⟨_, rfl, rfl⟩ (fun h => Bool.noConfusion (show false = true from h))
@[go_sem] theorem T_1 : T 1 = ⟨.func, 1, 8, .nilFunc, false⟩ := rfl
@[go_sem] theorem T_2 : T 2 = ⟨.int .i64, 1, 8, .int .i64 0, false⟩ := rfl
@[go_sem] theorem T_3 : T 3 = ⟨.int .i64, 1, 8, .int .i64 0, false⟩ := rfl
@[go_sem] theorem T_4 : T 4 = ⟨.bool, 1, 1, .bool false, false⟩ := rfl
@[go_sem] theorem T_5 : T 5 = ⟨.int .u8, 1, 1, .int .u8 0, false⟩ := rfl
@[go_sem] theorem T_6 : T 6 = ⟨.int .u8, 1, 1, .int .u8 0, false⟩ := rfl
@[go_sem] theorem T_7 : T 7 = ⟨.struct [(2, 0), (3, 1), (4, 2), (6, 3)], 4, 24, .agg #[.int .i64 0, .int .i64 0, .bool false, .int .u8 0], false⟩ := rfl
@[go_sem] theorem T_8 : T 8 = ⟨.struct [(2, 0), (3, 1), (4, 2), (6, 3)], 4, 24, .agg #[.int .i64 0, .int .i64 0, .bool false, .int .u8 0], false⟩ := rfl
@[go_sem] theorem T_9 : T 9 = ⟨.str, 1, 16, .string ⟨#[]⟩, false⟩ := rfl
@[go_sem] theorem T_10 : T 10 = ⟨.str, 1, 16, .string ⟨#[]⟩, false⟩ := rfl
@[go_sem] theorem T_11 : T 11 = ⟨.str, 1, 16, .string ⟨#[]⟩, false⟩ := rfl
@[go_sem] theorem T_12 : T 12 = ⟨.int .u64, 1, 8, .int .u64 0, false⟩ := rfl
@[go_sem] theorem T_13 : T 13 = ⟨.struct [(9, 0), (12, 1)], 2, 24, .agg #[.string ⟨#[]⟩, .int .u64 0], false⟩ := rfl
@[go_sem] theorem T_14 : T 14 = ⟨.struct [(9, 0), (12, 1)], 2, 24, .agg #[.string ⟨#[]⟩, .int .u64 0], false⟩ := rfl
@[go_sem] theorem T_15 : T 15 = ⟨.ptr 51, 1, 8, .pointer none, false⟩ := rfl
@[go_sem] theorem T_16 : T 16 = ⟨.ptr 54, 1, 8, .pointer none, false⟩ := rfl
@[go_sem] theorem T_17 : T 17 = ⟨.ptr 63, 1, 8, .pointer none, false⟩ := rfl
@[go_sem] theorem T_18 : T 18 = ⟨.struct [(17, 0)], 1, 8, .agg #[.pointer none], false⟩ := rfl
@[go_sem] theorem T_19 : T 19 = ⟨.struct [(17, 0)], 1, 8, .agg #[.pointer none], false⟩ := rfl
@[go_sem] theorem T_21 : T 21 = ⟨.int .i32, 1, 4, .int .i32 0, false⟩ := rfl
@[go_sem] theorem T_22 : T 22 = ⟨.struct [(3, 0), (3, 1)], 2, 16, .agg #[.int .i64 0, .int .i64 0], false⟩ := rfl
@[go_sem] theorem T_23 : T 23 = ⟨.struct [(3, 0), (3, 1)], 2, 16, .agg #[.int .i64 0, .int .i64 0], true⟩ := rfl
@[go_sem] theorem T_24 : T 24 = ⟨.func, 1, 8, .nilFunc, false⟩ := rfl
@[go_sem] theorem T_25 : T 25 = ⟨.func, 1, 8, .nilFunc, false⟩ := rfl
@[go_sem] theorem T_26 : T 26 = ⟨.map 3 4, 1, 8, .map none, false⟩ := rfl
@[go_sem] theorem T_27 : T 27 = ⟨.int .i64, 1, 8, .int .i64 0, false⟩ := rfl
@[go_sem] theorem T_29 : T 29 = ⟨.func, 1, 8, .nilFunc, false⟩ := rfl
@[go_sem] theorem T_30 : T 30 = ⟨.func, 1, 8, .nilFunc, false⟩ := rfl
@[go_sem] theorem T_31 : T 31 = ⟨.func, 1, 8, .nilFunc, false⟩ := rfl
@[go_sem] theorem T_32 : T 32 = ⟨.func, 1, 8, .nilFunc, false⟩ := rfl
@[go_sem] theorem T_33 : T 33 = ⟨.slice 5, 1, 24, .slice none 0 0, false⟩ := rfl
@[go_sem] theorem T_35 : T 35 = ⟨.func, 1, 8, .nilFunc, false⟩ := rfl
@[go_sem] theorem T_36 : T 36 = ⟨.struct [(3, 0), (3, 1), (3, 2), (3, 3)], 4, 32, .agg #[.int .i64 0, .int .i64 0, .int .i64 0, .int .i64 0], false⟩ := rfl
@[go_sem] theorem T_37 : T 37 = ⟨.struct [(3, 0), (3, 1), (3, 2), (3, 3)], 4, 32, .agg #[.int .i64 0, .int .i64 0, .int .i64 0, .int .i64 0], true⟩ := rfl
@[go_sem] theorem T_38 : T 38 = ⟨.func, 1, 8, .nilFunc, false⟩ := rfl
@[go_sem] theorem T_39 : T 39 = ⟨.func, 1, 8, .nilFunc, false⟩ := rfl
@[go_sem] theorem T_40 : T 40 = ⟨.func, 1, 8, .nilFunc, false⟩ := rfl
@[go_sem] theorem T_41 : T 41 = ⟨.array 4 5, 4, 4, .agg #[.int .u8 0, .int .u8 0, .int .u8 0, .int .u8 0], false⟩ := rfl
@[go_sem] theorem T_42 : T 42 = ⟨.func, 1, 8, .nilFunc, false⟩ := rfl
@[go_sem] theorem T_43 : T 43 = ⟨.int .u32, 1, 4, .int .u32 0, false⟩ := rfl
@[go_sem] theorem T_44 : T 44 = ⟨.func, 1, 8, .nilFunc, false⟩ := rfl
@[go_sem] theorem T_45 : T 45 = ⟨.int .u64, 1, 8, .int .u64 0, false⟩ := rfl
@[go_sem] theorem T_46 : T 46 = ⟨.slice 33, 1, 24, .slice none 0 0, false⟩ := rfl
@[go_sem] theorem T_47 : T 47 = ⟨.array 256 43, 256, 1024, .agg (Array.replicate 256 (.int .u32 0)), false⟩ := rfl
@[go_sem] theorem T_48 : T 48 = ⟨.func, 1, 8, .nilFunc, false⟩ := rfl
@[go_sem] theorem T_49 : T 49 = ⟨.func, 1, 8, .nilFunc, false⟩ := rfl
@[go_sem] theorem T_50 : T 50 = ⟨.struct [(17, 0), (17, 1), (17, 2), (9, 3)], 4, 40, .agg #[.pointer none, .pointer none, .pointer none, .string ⟨#[]⟩], false⟩ := rfl
@[go_sem] theorem T_51 : T 51 = ⟨.struct [(17, 0), (17, 1), (17, 2), (9, 3)], 4, 40, .agg #[.pointer none, .pointer none, .pointer none, .string ⟨#[]⟩], false⟩ := rfl
@[go_sem] theorem T_52 : T 52 = ⟨.array 0 16, 0, 0, .agg #[], false⟩ := rfl
@[go_sem] theorem T_53 : T 53 = ⟨.struct [(52, 0)], 0, 0, .agg #[], false⟩ := rfl
@[go_sem] theorem T_54 : T 54 = ⟨.struct [(52, 0)], 0, 0, .agg #[], false⟩ := rfl
@[go_sem] theorem T_55 : T 55 = ⟨.func, 1, 8, .nilFunc, false⟩ := rfl
@[go_sem] theorem T_56 : T 56 = ⟨.int .u8, 1, 1, .int .u8 0, false⟩ := rfl
@[go_sem] theorem T_57 : T 57 = ⟨.int .u8, 1, 1, .int .u8 0, false⟩ := rfl
@[go_sem] theorem T_58 : T 58 = ⟨.func, 1, 8, .nilFunc, false⟩ := rfl
@[go_sem] theorem T_59 : T 59 = ⟨.ptr 5, 1, 8, .pointer none, false⟩ := rfl
@[go_sem] theorem T_60 : T 60 = ⟨.int .i32, 1, 4, .int .i32 0, false⟩ := rfl
@[go_sem] theorem T_61 : T 61 = ⟨.int .i32, 1, 4, .int .i32 0, false⟩ := rfl
@[go_sem] theorem T_62 : T 62 = ⟨.struct [(12, 0), (12, 1), (43, 2), (56, 3), (5, 4), (5, 5), (57, 6), (58, 7), (59, 8), (60, 9), (61, 10)], 11, 48, .agg #[.int .u64 0, .int .u64 0, .int .u32 0, .int .u8 0, .int .u8 0, .int .u8 0, .int .u8 0, .nilFunc, .pointer none, .int .i32 0, .int .i32 0], false⟩ := rfl
@[go_sem] theorem T_63 : T 63 = ⟨.struct [(12, 0), (12, 1), (43, 2), (56, 3), (5, 4), (5, 5), (57, 6), (58, 7), (59, 8), (60, 9), (61, 10)], 11, 48, .agg #[.int .u64 0, .int .u64 0, .int .u32 0, .int .u8 0, .int .u8 0, .int .u8 0, .int .u8 0, .nilFunc, .pointer none, .int .i32 0, .int .i32 0], false⟩ := rfl

theorem tok : TOK Try.prog T := by
  intro t ⟨f, hf, hne⟩
  match t with
  | 0 => exact absurd (hf ▸ rfl) hne
  | 1 => exact ti1
  | 2 => exact ti2
  | 3 => exact ti3
  | 4 => exact ti4
  | 5 => exact ti5
  | 6 => exact ti6
  | 7 => exact ti7
  | 8 => exact ti8
  | 9 => exact ti9
  | 10 => exact ti10
  | 11 => exact ti11
  | 12 => exact ti12
  | 13 => exact ti13
  | 14 => exact ti14
  | 15 => exact ti15
  | 16 => exact ti16
  | 17 => exact ti17
  | 18 => exact ti18
  | 19 => exact ti19
  | 20 => exact absurd (hf ▸ rfl) hne
  | 21 => exact ti21
  | 22 => exact ti22
  | 23 => exact ti23
  | 24 => exact ti24
  | 25 => exact ti25
  | 26 => exact ti26
  | 27 => exact ti27
  | 28 => exact absurd (hf ▸ rfl) hne
  | 29 => exact ti29
  | 30 => exact ti30
  | 31 => exact ti31
  | 32 => exact ti32
  | 33 => exact ti33
  | 34 => exact absurd (hf ▸ rfl) hne
  | 35 => exact ti35
  | 36 => exact ti36
  | 37 => exact ti37
  | 38 => exact ti38
  | 39 => exact ti39
  | 40 => exact ti40
  | 41 => exact ti41
  | 42 => exact ti42
  | 43 => exact ti43
  | 44 => exact ti44
  | 45 => exact ti45
  | 46 => exact ti46
  | 47 => exact ti47
  | 48 => exact ti48
  | 49 => exact ti49
  | 50 => exact ti50
  | 51 => exact ti51
  | 52 => exact ti52
  | 53 => exact ti53
  | 54 => exact ti54
  | 55 => exact ti55
  | 56 => exact ti56
  | 57 => exact ti57
  | 58 => exact ti58
  | 59 => exact ti59
  | 60 => exact ti60
  | 61 => exact ti61
  | 62 => exact ti62
  | 63 => exact ti63
  | 64 => exact absurd (hf ▸ rfl) hne
  | k + 65 =>
    exfalso
    apply hne
    rw [← hf]
    rfl
abbrev n_main_main : FuncId := 0
abbrev n_gosem_cut : FuncId := 1
abbrev n_gosem_cut_init : FuncId := 2
abbrev n_bursarlaw07_SuperApart : FuncId := 3
abbrev n_super_Fits : FuncId := 4
abbrev n_bursarlaw07_awake : FuncId := 5
abbrev n_super_Log : FuncId := 6
abbrev n_super_Page : FuncId := 7
abbrev n_super_Size : FuncId := 8
abbrev n_super_in : FuncId := 9
abbrev n_super_half : FuncId := 10
abbrev n_super_Encode : FuncId := 11
abbrev n_super_May : FuncId := 12
abbrev n_super_lay : FuncId := 13
abbrev n_check_Seal : FuncId := 14
abbrev n_check_octets : FuncId := 15
abbrev n_check_Sum : FuncId := 16
abbrev n_slices_Clone_s_byte_byte : FuncId := 17
abbrev n_check_words : FuncId := 18
abbrev n_runtime_boundsError_Error : FuncId := 19
abbrev n_runtime_boundsError_RuntimeError : FuncId := 20
abbrev n_runtime_errorString_Error : FuncId := 21
abbrev n_runtime_errorString_RuntimeError : FuncId := 22
abbrev n_runtime_plainError_Error : FuncId := 23
abbrev n_runtime_plainError_RuntimeError : FuncId := 24
abbrev n_runtime_errorAddressString_Error : FuncId := 25
abbrev n_runtime_errorAddressString_RuntimeError : FuncId := 26
abbrev n_runtime_TypeAssertionError_Error : FuncId := 27
abbrev n_runtime_TypeAssertionError_RuntimeError : FuncId := 28
abbrev n_runtime_PanicNilError_Error : FuncId := 29
abbrev n_runtime_PanicNilError_RuntimeError : FuncId := 30
abbrev n_abi_Type_Align : FuncId := 31
abbrev n_maps_unhashableTypeError_Error : FuncId := 32
abbrev n_maps_unhashableTypeError_RuntimeError : FuncId := 33
abbrev n_abi_Kind_String : FuncId := 34
theorem mix : Try.prog.follows .mixedOrders = true := by rfl
theorem at_bursarlaw07_SuperApart : FnAt Try.prog 3 := ⟨_, _, Try.func3, rfl, by simp [Try.f3]⟩
instance fnc_3 : FnC Try.prog 3 := ⟨at_bursarlaw07_SuperApart⟩
theorem at_super_Fits : FnAt Try.prog 4 := ⟨_, _, Try.func4, rfl, by simp [Try.f4]⟩
instance fnc_4 : FnC Try.prog 4 := ⟨at_super_Fits⟩
theorem at_bursarlaw07_awake : FnAt Try.prog 5 := ⟨_, _, Try.func5, rfl, by simp [Try.f5]⟩
instance fnc_5 : FnC Try.prog 5 := ⟨at_bursarlaw07_awake⟩
theorem at_super_Log : FnAt Try.prog 6 := ⟨_, _, Try.func6, rfl, by simp [Try.f6]⟩
instance fnc_6 : FnC Try.prog 6 := ⟨at_super_Log⟩
theorem at_super_Page : FnAt Try.prog 7 := ⟨_, _, Try.func7, rfl, by simp [Try.f7]⟩
instance fnc_7 : FnC Try.prog 7 := ⟨at_super_Page⟩
theorem at_super_Size : FnAt Try.prog 8 := ⟨_, _, Try.func8, rfl, by simp [Try.f8]⟩
instance fnc_8 : FnC Try.prog 8 := ⟨at_super_Size⟩
theorem at_super_in : FnAt Try.prog 9 := ⟨_, _, Try.func9, rfl, by simp [Try.f9]⟩
instance fnc_9 : FnC Try.prog 9 := ⟨at_super_in⟩
theorem at_super_half : FnAt Try.prog 10 := ⟨_, _, Try.func10, rfl, by simp [Try.f10]⟩
instance fnc_10 : FnC Try.prog 10 := ⟨at_super_half⟩
theorem at_super_Encode : FnAt Try.prog 11 := ⟨_, _, Try.func11, rfl, by simp [Try.f11]⟩
instance fnc_11 : FnC Try.prog 11 := ⟨at_super_Encode⟩
theorem at_super_May : FnAt Try.prog 12 := ⟨_, _, Try.func12, rfl, by simp [Try.f12]⟩
instance fnc_12 : FnC Try.prog 12 := ⟨at_super_May⟩
theorem at_super_lay : FnAt Try.prog 13 := ⟨_, _, Try.func13, rfl, by simp [Try.f13]⟩
instance fnc_13 : FnC Try.prog 13 := ⟨at_super_lay⟩
theorem at_check_Seal : FnAt Try.prog 14 := ⟨_, _, Try.func14, rfl, by simp [Try.f14]⟩
instance fnc_14 : FnC Try.prog 14 := ⟨at_check_Seal⟩
theorem at_check_octets : FnAt Try.prog 15 := ⟨_, _, Try.func15, rfl, by simp [Try.f15]⟩
instance fnc_15 : FnC Try.prog 15 := ⟨at_check_octets⟩
theorem at_check_Sum : FnAt Try.prog 16 := ⟨_, _, Try.func16, rfl, by simp [Try.f16]⟩
instance fnc_16 : FnC Try.prog 16 := ⟨at_check_Sum⟩
theorem at_slices_Clone_s_byte_byte : FnAt Try.prog 17 := ⟨_, _, Try.func17, rfl, by simp [Try.f17]⟩
instance fnc_17 : FnC Try.prog 17 := ⟨at_slices_Clone_s_byte_byte⟩
theorem at_check_words : FnAt Try.prog 18 := ⟨_, _, Try.func18, rfl, by simp [Try.f18]⟩
instance fnc_18 : FnC Try.prog 18 := ⟨at_check_words⟩
end Go.Proofs.Ytpeleigbmboceaa
