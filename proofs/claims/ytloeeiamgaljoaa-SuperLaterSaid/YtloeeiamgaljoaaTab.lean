/- The types of the program of this seat as a table, and that they are the program's; names for its functions. -/
import Derived.Test.YtloeeiamgaljoaaProg
import Derived.Test.YtloeeiamgaljoaaVGo3
import Derived.KernelRfl
namespace Go.Proofs.Ytloeeiamgaljoaa
open Go Go.Val
set_option maxRecDepth 100000

def tab : List TI := [
  ⟨.other, 0, 0, .nilFunc, false⟩,
  ⟨.func, 1, 8, .nilFunc, false⟩,
  ⟨.int .i64, 1, 8, .int .i64 0, false⟩,
  ⟨.int .i64, 1, 8, .int .i64 0, false⟩,
  ⟨.bool, 1, 1, .bool false, false⟩,
  ⟨.int .u8, 1, 1, .int .u8 0, false⟩,
  ⟨.int .u8, 1, 1, .int .u8 0, false⟩,
  ⟨.struct [(2, 0), (3, 1), (4, 2), (6, 3)], 4, 24, .agg #[.int .i64 0, .int .i64 0, .bool false, .int .u8 0], false⟩,
  ⟨.struct [(2, 0), (3, 1), (4, 2), (6, 3)], 4, 24, .agg #[.int .i64 0, .int .i64 0, .bool false, .int .u8 0], false⟩,
  ⟨.str, 1, 16, .string ⟨#[]⟩, false⟩,
  ⟨.str, 1, 16, .string ⟨#[]⟩, false⟩,
  ⟨.str, 1, 16, .string ⟨#[]⟩, false⟩,
  ⟨.int .u64, 1, 8, .int .u64 0, false⟩,
  ⟨.struct [(9, 0), (12, 1)], 2, 24, .agg #[.string ⟨#[]⟩, .int .u64 0], false⟩,
  ⟨.struct [(9, 0), (12, 1)], 2, 24, .agg #[.string ⟨#[]⟩, .int .u64 0], false⟩,
  ⟨.ptr 80, 1, 8, .pointer none, false⟩,
  ⟨.ptr 83, 1, 8, .pointer none, false⟩,
  ⟨.ptr 92, 1, 8, .pointer none, false⟩,
  ⟨.struct [(17, 0)], 1, 8, .agg #[.pointer none], false⟩,
  ⟨.struct [(17, 0)], 1, 8, .agg #[.pointer none], false⟩,
  ⟨.other, 0, 0, .nilFunc, false⟩,
  ⟨.int .i32, 1, 4, .int .i32 0, false⟩,
  ⟨.slice 23, 1, 24, .slice none 0 0, false⟩,
  ⟨.slice 5, 1, 24, .slice none 0 0, false⟩,
  ⟨.func, 1, 8, .nilFunc, false⟩,
  ⟨.int .u32, 1, 4, .int .u32 0, false⟩,
  ⟨.func, 1, 8, .nilFunc, false⟩,
  ⟨.func, 1, 8, .nilFunc, false⟩,
  ⟨.func, 1, 8, .nilFunc, false⟩,
  ⟨.func, 1, 8, .nilFunc, false⟩,
  ⟨.func, 1, 8, .nilFunc, false⟩,
  ⟨.int .i64, 1, 8, .int .i64 0, false⟩,
  ⟨.other, 0, 0, .nilFunc, false⟩,
  ⟨.func, 1, 8, .nilFunc, false⟩,
  ⟨.other, 0, 0, .nilFunc, false⟩,
  ⟨.func, 1, 8, .nilFunc, false⟩,
  ⟨.func, 1, 8, .nilFunc, false⟩,
  ⟨.func, 1, 8, .nilFunc, false⟩,
  ⟨.int .u64, 1, 8, .int .u64 0, false⟩,
  ⟨.int .u64, 1, 8, .int .u64 0, false⟩,
  ⟨.func, 1, 8, .nilFunc, false⟩,
  ⟨.struct [(3, 0), (3, 1)], 2, 16, .agg #[.int .i64 0, .int .i64 0], false⟩,
  ⟨.struct [(3, 0), (3, 1)], 2, 16, .agg #[.int .i64 0, .int .i64 0], true⟩,
  ⟨.other, 0, 0, .nilFunc, false⟩,
  ⟨.func, 1, 8, .nilFunc, false⟩,
  ⟨.func, 1, 8, .nilFunc, false⟩,
  ⟨.func, 1, 8, .nilFunc, false⟩,
  ⟨.func, 1, 8, .nilFunc, false⟩,
  ⟨.func, 1, 8, .nilFunc, false⟩,
  ⟨.func, 1, 8, .nilFunc, false⟩,
  ⟨.map 3 4, 1, 8, .map none, false⟩,
  ⟨.struct [(3, 0), (3, 1), (3, 2), (3, 3)], 4, 32, .agg #[.int .i64 0, .int .i64 0, .int .i64 0, .int .i64 0], false⟩,
  ⟨.struct [(3, 0), (3, 1), (3, 2), (3, 3)], 4, 32, .agg #[.int .i64 0, .int .i64 0, .int .i64 0, .int .i64 0], true⟩,
  ⟨.other, 0, 0, .nilFunc, false⟩,
  ⟨.func, 1, 8, .nilFunc, false⟩,
  ⟨.other, 0, 0, .nilFunc, false⟩,
  ⟨.func, 1, 8, .nilFunc, false⟩,
  ⟨.func, 1, 8, .nilFunc, false⟩,
  ⟨.func, 1, 8, .nilFunc, false⟩,
  ⟨.func, 1, 8, .nilFunc, false⟩,
  ⟨.func, 1, 8, .nilFunc, false⟩,
  ⟨.struct [(52, 0), (52, 4), (38, 8), (25, 9)], 10, 80, .agg #[.int .i64 0, .int .i64 0, .int .i64 0, .int .i64 0, .int .i64 0, .int .i64 0, .int .i64 0, .int .i64 0, .int .u64 0, .int .u32 0], false⟩,
  ⟨.struct [(52, 0), (52, 4), (38, 8), (25, 9)], 10, 80, .agg #[.int .i64 0, .int .i64 0, .int .i64 0, .int .i64 0, .int .i64 0, .int .i64 0, .int .i64 0, .int .i64 0, .int .u64 0, .int .u32 0], true⟩,
  ⟨.func, 1, 8, .nilFunc, false⟩,
  ⟨.func, 1, 8, .nilFunc, false⟩,
  ⟨.other, 0, 0, .nilFunc, false⟩,
  ⟨.func, 1, 8, .nilFunc, false⟩,
  ⟨.array 2 23, 2, 48, .agg #[.slice none 0 0, .slice none 0 0], false⟩,
  ⟨.func, 1, 8, .nilFunc, false⟩,
  ⟨.array 256 25, 256, 1024, .agg (Array.replicate 256 (.int .u32 0)), false⟩,
  ⟨.func, 1, 8, .nilFunc, false⟩,
  ⟨.array 4 5, 4, 4, .agg #[.int .u8 0, .int .u8 0, .int .u8 0, .int .u8 0], false⟩,
  ⟨.func, 1, 8, .nilFunc, false⟩,
  ⟨.func, 1, 8, .nilFunc, false⟩,
  ⟨.func, 1, 8, .nilFunc, false⟩,
  ⟨.func, 1, 8, .nilFunc, false⟩,
  ⟨.func, 1, 8, .nilFunc, false⟩,
  ⟨.func, 1, 8, .nilFunc, false⟩,
  ⟨.func, 1, 8, .nilFunc, false⟩,
  ⟨.struct [(17, 0), (17, 1), (17, 2), (9, 3)], 4, 40, .agg #[.pointer none, .pointer none, .pointer none, .string ⟨#[]⟩], false⟩,
  ⟨.struct [(17, 0), (17, 1), (17, 2), (9, 3)], 4, 40, .agg #[.pointer none, .pointer none, .pointer none, .string ⟨#[]⟩], false⟩,
  ⟨.array 0 16, 0, 0, .agg #[], false⟩,
  ⟨.struct [(81, 0)], 0, 0, .agg #[], false⟩,
  ⟨.struct [(81, 0)], 0, 0, .agg #[], false⟩,
  ⟨.func, 1, 8, .nilFunc, false⟩,
  ⟨.int .u8, 1, 1, .int .u8 0, false⟩,
  ⟨.int .u8, 1, 1, .int .u8 0, false⟩,
  ⟨.func, 1, 8, .nilFunc, false⟩,
  ⟨.ptr 5, 1, 8, .pointer none, false⟩,
  ⟨.int .i32, 1, 4, .int .i32 0, false⟩,
  ⟨.int .i32, 1, 4, .int .i32 0, false⟩,
  ⟨.struct [(12, 0), (12, 1), (25, 2), (85, 3), (5, 4), (5, 5), (86, 6), (87, 7), (88, 8), (89, 9), (90, 10)], 11, 48, .agg #[.int .u64 0, .int .u64 0, .int .u32 0, .int .u8 0, .int .u8 0, .int .u8 0, .int .u8 0, .nilFunc, .pointer none, .int .i32 0, .int .i32 0], false⟩,
  ⟨.struct [(12, 0), (12, 1), (25, 2), (85, 3), (5, 4), (5, 5), (86, 6), (87, 7), (88, 8), (89, 9), (90, 10)], 11, 48, .agg #[.int .u64 0, .int .u64 0, .int .u32 0, .int .u8 0, .int .u8 0, .int .u8 0, .int .u8 0, .nilFunc, .pointer none, .int .i32 0, .int .i32 0], false⟩,
  ⟨.other, 0, 0, .nilFunc, false⟩]
def T (t : TypeId) : TI := tab.getD t ⟨.other, 0, 0, .nilFunc, false⟩

theorem mk1 {P : Program} {t : TypeId} {ti : TI} {d : TypeDesc} (h : (P.info? t).map (fun i => (i.zero, i.size, i.bytes)) = some (some ti.zero, ti.size, ti.bytes)) (u : P.underlying t = some d) (r : TyRel ti.ty d)
    (e : ti.eqok = true → P.stoodInHeld t = false ∧ P.eqGuardType P.depth t = false ∧ ∃ gs, P.underlying t = some (.struct gs) ∧ ∀ f ∈ gs.toList, f.name ≠ "_") :
    ∃ i d, P.info? t = some i ∧ P.underlying t = some d ∧ TyRel ti.ty d ∧ i.size = ti.size ∧ i.bytes = ti.bytes ∧ i.zero = some ti.zero ∧ (ti.eqok = true → P.stoodInHeld t = false ∧ P.eqGuardType P.depth t = false ∧ ∃ gs, P.underlying t = some (.struct gs) ∧ ∀ f ∈ gs.toList, f.name ≠ "_") := by
  simp only [Option.map_eq_some_iff, Prod.mk.injEq] at h
  obtain ⟨i, hi, h1, h2, h3⟩ := h
  exact ⟨i, d, hi, u, r, h2, h3, h1, e⟩

theorem ti1 : ∃ i d, Try.prog.info? 1 = some i ∧ Try.prog.underlying 1 = some d ∧ TyRel (T 1).ty d ∧ i.size = (T 1).size ∧ i.bytes = (T 1).bytes ∧ i.zero = some (T 1).zero ∧ ((T 1).eqok = true → Try.prog.stoodInHeld 1 = false ∧ Try.prog.eqGuardType Try.prog.depth 1 = false ∧ ∃ gs, Try.prog.underlying 1 = some (.struct gs) ∧ ∀ f ∈ gs.toList, f.name ≠ "_") :=
  mk1 (P := Try.prog) (t := 1) (ti := ⟨.func, 1, 8, .nilFunc, false⟩) (by kernel_rfl) Try.underlying1 ⟨_, _, _, rfl⟩ (fun h => by simp at h)
theorem ti2 : ∃ i d, Try.prog.info? 2 = some i ∧ Try.prog.underlying 2 = some d ∧ TyRel (T 2).ty d ∧ i.size = (T 2).size ∧ i.bytes = (T 2).bytes ∧ i.zero = some (T 2).zero ∧ ((T 2).eqok = true → Try.prog.stoodInHeld 2 = false ∧ Try.prog.eqGuardType Try.prog.depth 2 = false ∧ ∃ gs, Try.prog.underlying 2 = some (.struct gs) ∧ ∀ f ∈ gs.toList, f.name ≠ "_") :=
  mk1 (P := Try.prog) (t := 2) (ti := ⟨.int .i64, 1, 8, .int .i64 0, false⟩) (by kernel_rfl) Try.underlying2 rfl (fun h => by simp at h)
theorem ti3 : ∃ i d, Try.prog.info? 3 = some i ∧ Try.prog.underlying 3 = some d ∧ TyRel (T 3).ty d ∧ i.size = (T 3).size ∧ i.bytes = (T 3).bytes ∧ i.zero = some (T 3).zero ∧ ((T 3).eqok = true → Try.prog.stoodInHeld 3 = false ∧ Try.prog.eqGuardType Try.prog.depth 3 = false ∧ ∃ gs, Try.prog.underlying 3 = some (.struct gs) ∧ ∀ f ∈ gs.toList, f.name ≠ "_") :=
  mk1 (P := Try.prog) (t := 3) (ti := ⟨.int .i64, 1, 8, .int .i64 0, false⟩) (by kernel_rfl) Try.underlying3 rfl (fun h => by simp at h)
theorem ti4 : ∃ i d, Try.prog.info? 4 = some i ∧ Try.prog.underlying 4 = some d ∧ TyRel (T 4).ty d ∧ i.size = (T 4).size ∧ i.bytes = (T 4).bytes ∧ i.zero = some (T 4).zero ∧ ((T 4).eqok = true → Try.prog.stoodInHeld 4 = false ∧ Try.prog.eqGuardType Try.prog.depth 4 = false ∧ ∃ gs, Try.prog.underlying 4 = some (.struct gs) ∧ ∀ f ∈ gs.toList, f.name ≠ "_") :=
  mk1 (P := Try.prog) (t := 4) (ti := ⟨.bool, 1, 1, .bool false, false⟩) (by kernel_rfl) Try.underlying4 rfl (fun h => by simp at h)
theorem ti5 : ∃ i d, Try.prog.info? 5 = some i ∧ Try.prog.underlying 5 = some d ∧ TyRel (T 5).ty d ∧ i.size = (T 5).size ∧ i.bytes = (T 5).bytes ∧ i.zero = some (T 5).zero ∧ ((T 5).eqok = true → Try.prog.stoodInHeld 5 = false ∧ Try.prog.eqGuardType Try.prog.depth 5 = false ∧ ∃ gs, Try.prog.underlying 5 = some (.struct gs) ∧ ∀ f ∈ gs.toList, f.name ≠ "_") :=
  mk1 (P := Try.prog) (t := 5) (ti := ⟨.int .u8, 1, 1, .int .u8 0, false⟩) (by kernel_rfl) Try.underlying5 rfl (fun h => by simp at h)
theorem ti6 : ∃ i d, Try.prog.info? 6 = some i ∧ Try.prog.underlying 6 = some d ∧ TyRel (T 6).ty d ∧ i.size = (T 6).size ∧ i.bytes = (T 6).bytes ∧ i.zero = some (T 6).zero ∧ ((T 6).eqok = true → Try.prog.stoodInHeld 6 = false ∧ Try.prog.eqGuardType Try.prog.depth 6 = false ∧ ∃ gs, Try.prog.underlying 6 = some (.struct gs) ∧ ∀ f ∈ gs.toList, f.name ≠ "_") :=
  mk1 (P := Try.prog) (t := 6) (ti := ⟨.int .u8, 1, 1, .int .u8 0, false⟩) (by kernel_rfl) Try.underlying6 rfl (fun h => by simp at h)
theorem ti7 : ∃ i d, Try.prog.info? 7 = some i ∧ Try.prog.underlying 7 = some d ∧ TyRel (T 7).ty d ∧ i.size = (T 7).size ∧ i.bytes = (T 7).bytes ∧ i.zero = some (T 7).zero ∧ ((T 7).eqok = true → Try.prog.stoodInHeld 7 = false ∧ Try.prog.eqGuardType Try.prog.depth 7 = false ∧ ∃ gs, Try.prog.underlying 7 = some (.struct gs) ∧ ∀ f ∈ gs.toList, f.name ≠ "_") :=
  mk1 (P := Try.prog) (t := 7) (ti := ⟨.struct [(2, 0), (3, 1), (4, 2), (6, 3)], 4, 24, .agg #[.int .i64 0, .int .i64 0, .bool false, .int .u8 0], false⟩) (by kernel_rfl) Try.underlying7 ⟨_, rfl, rfl⟩ (fun h => by simp at h)
theorem ti8 : ∃ i d, Try.prog.info? 8 = some i ∧ Try.prog.underlying 8 = some d ∧ TyRel (T 8).ty d ∧ i.size = (T 8).size ∧ i.bytes = (T 8).bytes ∧ i.zero = some (T 8).zero ∧ ((T 8).eqok = true → Try.prog.stoodInHeld 8 = false ∧ Try.prog.eqGuardType Try.prog.depth 8 = false ∧ ∃ gs, Try.prog.underlying 8 = some (.struct gs) ∧ ∀ f ∈ gs.toList, f.name ≠ "_") :=
  mk1 (P := Try.prog) (t := 8) (ti := ⟨.struct [(2, 0), (3, 1), (4, 2), (6, 3)], 4, 24, .agg #[.int .i64 0, .int .i64 0, .bool false, .int .u8 0], false⟩) (by kernel_rfl) Try.underlying8 ⟨_, rfl, rfl⟩ (fun h => by simp at h)
theorem ti9 : ∃ i d, Try.prog.info? 9 = some i ∧ Try.prog.underlying 9 = some d ∧ TyRel (T 9).ty d ∧ i.size = (T 9).size ∧ i.bytes = (T 9).bytes ∧ i.zero = some (T 9).zero ∧ ((T 9).eqok = true → Try.prog.stoodInHeld 9 = false ∧ Try.prog.eqGuardType Try.prog.depth 9 = false ∧ ∃ gs, Try.prog.underlying 9 = some (.struct gs) ∧ ∀ f ∈ gs.toList, f.name ≠ "_") :=
  mk1 (P := Try.prog) (t := 9) (ti := ⟨.str, 1, 16, .string ⟨#[]⟩, false⟩) (by kernel_rfl) Try.underlying9 rfl (fun h => by simp at h)
theorem ti10 : ∃ i d, Try.prog.info? 10 = some i ∧ Try.prog.underlying 10 = some d ∧ TyRel (T 10).ty d ∧ i.size = (T 10).size ∧ i.bytes = (T 10).bytes ∧ i.zero = some (T 10).zero ∧ ((T 10).eqok = true → Try.prog.stoodInHeld 10 = false ∧ Try.prog.eqGuardType Try.prog.depth 10 = false ∧ ∃ gs, Try.prog.underlying 10 = some (.struct gs) ∧ ∀ f ∈ gs.toList, f.name ≠ "_") :=
  mk1 (P := Try.prog) (t := 10) (ti := ⟨.str, 1, 16, .string ⟨#[]⟩, false⟩) (by kernel_rfl) Try.underlying10 rfl (fun h => by simp at h)
theorem ti11 : ∃ i d, Try.prog.info? 11 = some i ∧ Try.prog.underlying 11 = some d ∧ TyRel (T 11).ty d ∧ i.size = (T 11).size ∧ i.bytes = (T 11).bytes ∧ i.zero = some (T 11).zero ∧ ((T 11).eqok = true → Try.prog.stoodInHeld 11 = false ∧ Try.prog.eqGuardType Try.prog.depth 11 = false ∧ ∃ gs, Try.prog.underlying 11 = some (.struct gs) ∧ ∀ f ∈ gs.toList, f.name ≠ "_") :=
  mk1 (P := Try.prog) (t := 11) (ti := ⟨.str, 1, 16, .string ⟨#[]⟩, false⟩) (by kernel_rfl) Try.underlying11 rfl (fun h => by simp at h)
theorem ti12 : ∃ i d, Try.prog.info? 12 = some i ∧ Try.prog.underlying 12 = some d ∧ TyRel (T 12).ty d ∧ i.size = (T 12).size ∧ i.bytes = (T 12).bytes ∧ i.zero = some (T 12).zero ∧ ((T 12).eqok = true → Try.prog.stoodInHeld 12 = false ∧ Try.prog.eqGuardType Try.prog.depth 12 = false ∧ ∃ gs, Try.prog.underlying 12 = some (.struct gs) ∧ ∀ f ∈ gs.toList, f.name ≠ "_") :=
  mk1 (P := Try.prog) (t := 12) (ti := ⟨.int .u64, 1, 8, .int .u64 0, false⟩) (by kernel_rfl) Try.underlying12 rfl (fun h => by simp at h)
theorem ti13 : ∃ i d, Try.prog.info? 13 = some i ∧ Try.prog.underlying 13 = some d ∧ TyRel (T 13).ty d ∧ i.size = (T 13).size ∧ i.bytes = (T 13).bytes ∧ i.zero = some (T 13).zero ∧ ((T 13).eqok = true → Try.prog.stoodInHeld 13 = false ∧ Try.prog.eqGuardType Try.prog.depth 13 = false ∧ ∃ gs, Try.prog.underlying 13 = some (.struct gs) ∧ ∀ f ∈ gs.toList, f.name ≠ "_") :=
  mk1 (P := Try.prog) (t := 13) (ti := ⟨.struct [(9, 0), (12, 1)], 2, 24, .agg #[.string ⟨#[]⟩, .int .u64 0], false⟩) (by kernel_rfl) Try.underlying13 ⟨_, rfl, rfl⟩ (fun h => by simp at h)
theorem ti14 : ∃ i d, Try.prog.info? 14 = some i ∧ Try.prog.underlying 14 = some d ∧ TyRel (T 14).ty d ∧ i.size = (T 14).size ∧ i.bytes = (T 14).bytes ∧ i.zero = some (T 14).zero ∧ ((T 14).eqok = true → Try.prog.stoodInHeld 14 = false ∧ Try.prog.eqGuardType Try.prog.depth 14 = false ∧ ∃ gs, Try.prog.underlying 14 = some (.struct gs) ∧ ∀ f ∈ gs.toList, f.name ≠ "_") :=
  mk1 (P := Try.prog) (t := 14) (ti := ⟨.struct [(9, 0), (12, 1)], 2, 24, .agg #[.string ⟨#[]⟩, .int .u64 0], false⟩) (by kernel_rfl) Try.underlying14 ⟨_, rfl, rfl⟩ (fun h => by simp at h)
theorem ti15 : ∃ i d, Try.prog.info? 15 = some i ∧ Try.prog.underlying 15 = some d ∧ TyRel (T 15).ty d ∧ i.size = (T 15).size ∧ i.bytes = (T 15).bytes ∧ i.zero = some (T 15).zero ∧ ((T 15).eqok = true → Try.prog.stoodInHeld 15 = false ∧ Try.prog.eqGuardType Try.prog.depth 15 = false ∧ ∃ gs, Try.prog.underlying 15 = some (.struct gs) ∧ ∀ f ∈ gs.toList, f.name ≠ "_") :=
  mk1 (P := Try.prog) (t := 15) (ti := ⟨.ptr 80, 1, 8, .pointer none, false⟩) (by kernel_rfl) Try.underlying15 rfl (fun h => by simp at h)
theorem ti16 : ∃ i d, Try.prog.info? 16 = some i ∧ Try.prog.underlying 16 = some d ∧ TyRel (T 16).ty d ∧ i.size = (T 16).size ∧ i.bytes = (T 16).bytes ∧ i.zero = some (T 16).zero ∧ ((T 16).eqok = true → Try.prog.stoodInHeld 16 = false ∧ Try.prog.eqGuardType Try.prog.depth 16 = false ∧ ∃ gs, Try.prog.underlying 16 = some (.struct gs) ∧ ∀ f ∈ gs.toList, f.name ≠ "_") :=
  mk1 (P := Try.prog) (t := 16) (ti := ⟨.ptr 83, 1, 8, .pointer none, false⟩) (by kernel_rfl) Try.underlying16 rfl (fun h => by simp at h)
theorem ti17 : ∃ i d, Try.prog.info? 17 = some i ∧ Try.prog.underlying 17 = some d ∧ TyRel (T 17).ty d ∧ i.size = (T 17).size ∧ i.bytes = (T 17).bytes ∧ i.zero = some (T 17).zero ∧ ((T 17).eqok = true → Try.prog.stoodInHeld 17 = false ∧ Try.prog.eqGuardType Try.prog.depth 17 = false ∧ ∃ gs, Try.prog.underlying 17 = some (.struct gs) ∧ ∀ f ∈ gs.toList, f.name ≠ "_") :=
  mk1 (P := Try.prog) (t := 17) (ti := ⟨.ptr 92, 1, 8, .pointer none, false⟩) (by kernel_rfl) Try.underlying17 rfl (fun h => by simp at h)
theorem ti18 : ∃ i d, Try.prog.info? 18 = some i ∧ Try.prog.underlying 18 = some d ∧ TyRel (T 18).ty d ∧ i.size = (T 18).size ∧ i.bytes = (T 18).bytes ∧ i.zero = some (T 18).zero ∧ ((T 18).eqok = true → Try.prog.stoodInHeld 18 = false ∧ Try.prog.eqGuardType Try.prog.depth 18 = false ∧ ∃ gs, Try.prog.underlying 18 = some (.struct gs) ∧ ∀ f ∈ gs.toList, f.name ≠ "_") :=
  mk1 (P := Try.prog) (t := 18) (ti := ⟨.struct [(17, 0)], 1, 8, .agg #[.pointer none], false⟩) (by kernel_rfl) Try.underlying18 ⟨_, rfl, rfl⟩ (fun h => by simp at h)
theorem ti19 : ∃ i d, Try.prog.info? 19 = some i ∧ Try.prog.underlying 19 = some d ∧ TyRel (T 19).ty d ∧ i.size = (T 19).size ∧ i.bytes = (T 19).bytes ∧ i.zero = some (T 19).zero ∧ ((T 19).eqok = true → Try.prog.stoodInHeld 19 = false ∧ Try.prog.eqGuardType Try.prog.depth 19 = false ∧ ∃ gs, Try.prog.underlying 19 = some (.struct gs) ∧ ∀ f ∈ gs.toList, f.name ≠ "_") :=
  mk1 (P := Try.prog) (t := 19) (ti := ⟨.struct [(17, 0)], 1, 8, .agg #[.pointer none], false⟩) (by kernel_rfl) Try.underlying19 ⟨_, rfl, rfl⟩ (fun h => by simp at h)
theorem ti21 : ∃ i d, Try.prog.info? 21 = some i ∧ Try.prog.underlying 21 = some d ∧ TyRel (T 21).ty d ∧ i.size = (T 21).size ∧ i.bytes = (T 21).bytes ∧ i.zero = some (T 21).zero ∧ ((T 21).eqok = true → Try.prog.stoodInHeld 21 = false ∧ Try.prog.eqGuardType Try.prog.depth 21 = false ∧ ∃ gs, Try.prog.underlying 21 = some (.struct gs) ∧ ∀ f ∈ gs.toList, f.name ≠ "_") :=
  mk1 (P := Try.prog) (t := 21) (ti := ⟨.int .i32, 1, 4, .int .i32 0, false⟩) (by kernel_rfl) Try.underlying21 rfl (fun h => by simp at h)
theorem ti22 : ∃ i d, Try.prog.info? 22 = some i ∧ Try.prog.underlying 22 = some d ∧ TyRel (T 22).ty d ∧ i.size = (T 22).size ∧ i.bytes = (T 22).bytes ∧ i.zero = some (T 22).zero ∧ ((T 22).eqok = true → Try.prog.stoodInHeld 22 = false ∧ Try.prog.eqGuardType Try.prog.depth 22 = false ∧ ∃ gs, Try.prog.underlying 22 = some (.struct gs) ∧ ∀ f ∈ gs.toList, f.name ≠ "_") :=
  mk1 (P := Try.prog) (t := 22) (ti := ⟨.slice 23, 1, 24, .slice none 0 0, false⟩) (by kernel_rfl) Try.underlying22 rfl (fun h => by simp at h)
theorem ti23 : ∃ i d, Try.prog.info? 23 = some i ∧ Try.prog.underlying 23 = some d ∧ TyRel (T 23).ty d ∧ i.size = (T 23).size ∧ i.bytes = (T 23).bytes ∧ i.zero = some (T 23).zero ∧ ((T 23).eqok = true → Try.prog.stoodInHeld 23 = false ∧ Try.prog.eqGuardType Try.prog.depth 23 = false ∧ ∃ gs, Try.prog.underlying 23 = some (.struct gs) ∧ ∀ f ∈ gs.toList, f.name ≠ "_") :=
  mk1 (P := Try.prog) (t := 23) (ti := ⟨.slice 5, 1, 24, .slice none 0 0, false⟩) (by kernel_rfl) Try.underlying23 rfl (fun h => by simp at h)
theorem ti24 : ∃ i d, Try.prog.info? 24 = some i ∧ Try.prog.underlying 24 = some d ∧ TyRel (T 24).ty d ∧ i.size = (T 24).size ∧ i.bytes = (T 24).bytes ∧ i.zero = some (T 24).zero ∧ ((T 24).eqok = true → Try.prog.stoodInHeld 24 = false ∧ Try.prog.eqGuardType Try.prog.depth 24 = false ∧ ∃ gs, Try.prog.underlying 24 = some (.struct gs) ∧ ∀ f ∈ gs.toList, f.name ≠ "_") :=
  mk1 (P := Try.prog) (t := 24) (ti := ⟨.func, 1, 8, .nilFunc, false⟩) (by kernel_rfl) Try.underlying24 ⟨_, _, _, rfl⟩ (fun h => by simp at h)
theorem ti25 : ∃ i d, Try.prog.info? 25 = some i ∧ Try.prog.underlying 25 = some d ∧ TyRel (T 25).ty d ∧ i.size = (T 25).size ∧ i.bytes = (T 25).bytes ∧ i.zero = some (T 25).zero ∧ ((T 25).eqok = true → Try.prog.stoodInHeld 25 = false ∧ Try.prog.eqGuardType Try.prog.depth 25 = false ∧ ∃ gs, Try.prog.underlying 25 = some (.struct gs) ∧ ∀ f ∈ gs.toList, f.name ≠ "_") :=
  mk1 (P := Try.prog) (t := 25) (ti := ⟨.int .u32, 1, 4, .int .u32 0, false⟩) (by kernel_rfl) Try.underlying25 rfl (fun h => by simp at h)
theorem ti26 : ∃ i d, Try.prog.info? 26 = some i ∧ Try.prog.underlying 26 = some d ∧ TyRel (T 26).ty d ∧ i.size = (T 26).size ∧ i.bytes = (T 26).bytes ∧ i.zero = some (T 26).zero ∧ ((T 26).eqok = true → Try.prog.stoodInHeld 26 = false ∧ Try.prog.eqGuardType Try.prog.depth 26 = false ∧ ∃ gs, Try.prog.underlying 26 = some (.struct gs) ∧ ∀ f ∈ gs.toList, f.name ≠ "_") :=
  mk1 (P := Try.prog) (t := 26) (ti := ⟨.func, 1, 8, .nilFunc, false⟩) (by kernel_rfl) Try.underlying26 ⟨_, _, _, rfl⟩ (fun h => by simp at h)
theorem ti27 : ∃ i d, Try.prog.info? 27 = some i ∧ Try.prog.underlying 27 = some d ∧ TyRel (T 27).ty d ∧ i.size = (T 27).size ∧ i.bytes = (T 27).bytes ∧ i.zero = some (T 27).zero ∧ ((T 27).eqok = true → Try.prog.stoodInHeld 27 = false ∧ Try.prog.eqGuardType Try.prog.depth 27 = false ∧ ∃ gs, Try.prog.underlying 27 = some (.struct gs) ∧ ∀ f ∈ gs.toList, f.name ≠ "_") :=
  mk1 (P := Try.prog) (t := 27) (ti := ⟨.func, 1, 8, .nilFunc, false⟩) (by kernel_rfl) Try.underlying27 ⟨_, _, _, rfl⟩ (fun h => by simp at h)
theorem ti28 : ∃ i d, Try.prog.info? 28 = some i ∧ Try.prog.underlying 28 = some d ∧ TyRel (T 28).ty d ∧ i.size = (T 28).size ∧ i.bytes = (T 28).bytes ∧ i.zero = some (T 28).zero ∧ ((T 28).eqok = true → Try.prog.stoodInHeld 28 = false ∧ Try.prog.eqGuardType Try.prog.depth 28 = false ∧ ∃ gs, Try.prog.underlying 28 = some (.struct gs) ∧ ∀ f ∈ gs.toList, f.name ≠ "_") :=
  mk1 (P := Try.prog) (t := 28) (ti := ⟨.func, 1, 8, .nilFunc, false⟩) (by kernel_rfl) Try.underlying28 ⟨_, _, _, rfl⟩ (fun h => by simp at h)
theorem ti29 : ∃ i d, Try.prog.info? 29 = some i ∧ Try.prog.underlying 29 = some d ∧ TyRel (T 29).ty d ∧ i.size = (T 29).size ∧ i.bytes = (T 29).bytes ∧ i.zero = some (T 29).zero ∧ ((T 29).eqok = true → Try.prog.stoodInHeld 29 = false ∧ Try.prog.eqGuardType Try.prog.depth 29 = false ∧ ∃ gs, Try.prog.underlying 29 = some (.struct gs) ∧ ∀ f ∈ gs.toList, f.name ≠ "_") :=
  mk1 (P := Try.prog) (t := 29) (ti := ⟨.func, 1, 8, .nilFunc, false⟩) (by kernel_rfl) Try.underlying29 ⟨_, _, _, rfl⟩ (fun h => by simp at h)
theorem ti30 : ∃ i d, Try.prog.info? 30 = some i ∧ Try.prog.underlying 30 = some d ∧ TyRel (T 30).ty d ∧ i.size = (T 30).size ∧ i.bytes = (T 30).bytes ∧ i.zero = some (T 30).zero ∧ ((T 30).eqok = true → Try.prog.stoodInHeld 30 = false ∧ Try.prog.eqGuardType Try.prog.depth 30 = false ∧ ∃ gs, Try.prog.underlying 30 = some (.struct gs) ∧ ∀ f ∈ gs.toList, f.name ≠ "_") :=
  mk1 (P := Try.prog) (t := 30) (ti := ⟨.func, 1, 8, .nilFunc, false⟩) (by kernel_rfl) Try.underlying30 ⟨_, _, _, rfl⟩ (fun h => by simp at h)
theorem ti31 : ∃ i d, Try.prog.info? 31 = some i ∧ Try.prog.underlying 31 = some d ∧ TyRel (T 31).ty d ∧ i.size = (T 31).size ∧ i.bytes = (T 31).bytes ∧ i.zero = some (T 31).zero ∧ ((T 31).eqok = true → Try.prog.stoodInHeld 31 = false ∧ Try.prog.eqGuardType Try.prog.depth 31 = false ∧ ∃ gs, Try.prog.underlying 31 = some (.struct gs) ∧ ∀ f ∈ gs.toList, f.name ≠ "_") :=
  mk1 (P := Try.prog) (t := 31) (ti := ⟨.int .i64, 1, 8, .int .i64 0, false⟩) (by kernel_rfl) Try.underlying31 rfl (fun h => by simp at h)
theorem ti33 : ∃ i d, Try.prog.info? 33 = some i ∧ Try.prog.underlying 33 = some d ∧ TyRel (T 33).ty d ∧ i.size = (T 33).size ∧ i.bytes = (T 33).bytes ∧ i.zero = some (T 33).zero ∧ ((T 33).eqok = true → Try.prog.stoodInHeld 33 = false ∧ Try.prog.eqGuardType Try.prog.depth 33 = false ∧ ∃ gs, Try.prog.underlying 33 = some (.struct gs) ∧ ∀ f ∈ gs.toList, f.name ≠ "_") :=
  mk1 (P := Try.prog) (t := 33) (ti := ⟨.func, 1, 8, .nilFunc, false⟩) (by kernel_rfl) Try.underlying33 ⟨_, _, _, rfl⟩ (fun h => by simp at h)
theorem ti35 : ∃ i d, Try.prog.info? 35 = some i ∧ Try.prog.underlying 35 = some d ∧ TyRel (T 35).ty d ∧ i.size = (T 35).size ∧ i.bytes = (T 35).bytes ∧ i.zero = some (T 35).zero ∧ ((T 35).eqok = true → Try.prog.stoodInHeld 35 = false ∧ Try.prog.eqGuardType Try.prog.depth 35 = false ∧ ∃ gs, Try.prog.underlying 35 = some (.struct gs) ∧ ∀ f ∈ gs.toList, f.name ≠ "_") :=
  mk1 (P := Try.prog) (t := 35) (ti := ⟨.func, 1, 8, .nilFunc, false⟩) (by kernel_rfl) Try.underlying35 ⟨_, _, _, rfl⟩ (fun h => by simp at h)
theorem ti36 : ∃ i d, Try.prog.info? 36 = some i ∧ Try.prog.underlying 36 = some d ∧ TyRel (T 36).ty d ∧ i.size = (T 36).size ∧ i.bytes = (T 36).bytes ∧ i.zero = some (T 36).zero ∧ ((T 36).eqok = true → Try.prog.stoodInHeld 36 = false ∧ Try.prog.eqGuardType Try.prog.depth 36 = false ∧ ∃ gs, Try.prog.underlying 36 = some (.struct gs) ∧ ∀ f ∈ gs.toList, f.name ≠ "_") :=
  mk1 (P := Try.prog) (t := 36) (ti := ⟨.func, 1, 8, .nilFunc, false⟩) (by kernel_rfl) Try.underlying36 ⟨_, _, _, rfl⟩ (fun h => by simp at h)
theorem ti37 : ∃ i d, Try.prog.info? 37 = some i ∧ Try.prog.underlying 37 = some d ∧ TyRel (T 37).ty d ∧ i.size = (T 37).size ∧ i.bytes = (T 37).bytes ∧ i.zero = some (T 37).zero ∧ ((T 37).eqok = true → Try.prog.stoodInHeld 37 = false ∧ Try.prog.eqGuardType Try.prog.depth 37 = false ∧ ∃ gs, Try.prog.underlying 37 = some (.struct gs) ∧ ∀ f ∈ gs.toList, f.name ≠ "_") :=
  mk1 (P := Try.prog) (t := 37) (ti := ⟨.func, 1, 8, .nilFunc, false⟩) (by kernel_rfl) Try.underlying37 ⟨_, _, _, rfl⟩ (fun h => by simp at h)
theorem ti38 : ∃ i d, Try.prog.info? 38 = some i ∧ Try.prog.underlying 38 = some d ∧ TyRel (T 38).ty d ∧ i.size = (T 38).size ∧ i.bytes = (T 38).bytes ∧ i.zero = some (T 38).zero ∧ ((T 38).eqok = true → Try.prog.stoodInHeld 38 = false ∧ Try.prog.eqGuardType Try.prog.depth 38 = false ∧ ∃ gs, Try.prog.underlying 38 = some (.struct gs) ∧ ∀ f ∈ gs.toList, f.name ≠ "_") :=
  mk1 (P := Try.prog) (t := 38) (ti := ⟨.int .u64, 1, 8, .int .u64 0, false⟩) (by kernel_rfl) Try.underlying38 rfl (fun h => by simp at h)
theorem ti39 : ∃ i d, Try.prog.info? 39 = some i ∧ Try.prog.underlying 39 = some d ∧ TyRel (T 39).ty d ∧ i.size = (T 39).size ∧ i.bytes = (T 39).bytes ∧ i.zero = some (T 39).zero ∧ ((T 39).eqok = true → Try.prog.stoodInHeld 39 = false ∧ Try.prog.eqGuardType Try.prog.depth 39 = false ∧ ∃ gs, Try.prog.underlying 39 = some (.struct gs) ∧ ∀ f ∈ gs.toList, f.name ≠ "_") :=
  mk1 (P := Try.prog) (t := 39) (ti := ⟨.int .u64, 1, 8, .int .u64 0, false⟩) (by kernel_rfl) Try.underlying39 rfl (fun h => by simp at h)
theorem ti40 : ∃ i d, Try.prog.info? 40 = some i ∧ Try.prog.underlying 40 = some d ∧ TyRel (T 40).ty d ∧ i.size = (T 40).size ∧ i.bytes = (T 40).bytes ∧ i.zero = some (T 40).zero ∧ ((T 40).eqok = true → Try.prog.stoodInHeld 40 = false ∧ Try.prog.eqGuardType Try.prog.depth 40 = false ∧ ∃ gs, Try.prog.underlying 40 = some (.struct gs) ∧ ∀ f ∈ gs.toList, f.name ≠ "_") :=
  mk1 (P := Try.prog) (t := 40) (ti := ⟨.func, 1, 8, .nilFunc, false⟩) (by kernel_rfl) Try.underlying40 ⟨_, _, _, rfl⟩ (fun h => by simp at h)
theorem ti41 : ∃ i d, Try.prog.info? 41 = some i ∧ Try.prog.underlying 41 = some d ∧ TyRel (T 41).ty d ∧ i.size = (T 41).size ∧ i.bytes = (T 41).bytes ∧ i.zero = some (T 41).zero ∧ ((T 41).eqok = true → Try.prog.stoodInHeld 41 = false ∧ Try.prog.eqGuardType Try.prog.depth 41 = false ∧ ∃ gs, Try.prog.underlying 41 = some (.struct gs) ∧ ∀ f ∈ gs.toList, f.name ≠ "_") :=
  mk1 (P := Try.prog) (t := 41) (ti := ⟨.struct [(3, 0), (3, 1)], 2, 16, .agg #[.int .i64 0, .int .i64 0], false⟩) (by kernel_rfl) Try.underlying41 ⟨_, rfl, rfl⟩ (fun h => by simp at h)
theorem ti42 : ∃ i d, Try.prog.info? 42 = some i ∧ Try.prog.underlying 42 = some d ∧ TyRel (T 42).ty d ∧ i.size = (T 42).size ∧ i.bytes = (T 42).bytes ∧ i.zero = some (T 42).zero ∧ ((T 42).eqok = true → Try.prog.stoodInHeld 42 = false ∧ Try.prog.eqGuardType Try.prog.depth 42 = false ∧ ∃ gs, Try.prog.underlying 42 = some (.struct gs) ∧ ∀ f ∈ gs.toList, f.name ≠ "_") :=
  mk1 (P := Try.prog) (t := 42) (ti := ⟨.struct [(3, 0), (3, 1)], 2, 16, .agg #[.int .i64 0, .int .i64 0], true⟩) (by kernel_rfl) Try.underlying42 ⟨_, rfl, rfl⟩ (fun _ => ⟨by kernel_rfl, by kernel_rfl, _, Try.underlying42, by simp⟩)
theorem ti44 : ∃ i d, Try.prog.info? 44 = some i ∧ Try.prog.underlying 44 = some d ∧ TyRel (T 44).ty d ∧ i.size = (T 44).size ∧ i.bytes = (T 44).bytes ∧ i.zero = some (T 44).zero ∧ ((T 44).eqok = true → Try.prog.stoodInHeld 44 = false ∧ Try.prog.eqGuardType Try.prog.depth 44 = false ∧ ∃ gs, Try.prog.underlying 44 = some (.struct gs) ∧ ∀ f ∈ gs.toList, f.name ≠ "_") :=
  mk1 (P := Try.prog) (t := 44) (ti := ⟨.func, 1, 8, .nilFunc, false⟩) (by kernel_rfl) Try.underlying44 ⟨_, _, _, rfl⟩ (fun h => by simp at h)
theorem ti45 : ∃ i d, Try.prog.info? 45 = some i ∧ Try.prog.underlying 45 = some d ∧ TyRel (T 45).ty d ∧ i.size = (T 45).size ∧ i.bytes = (T 45).bytes ∧ i.zero = some (T 45).zero ∧ ((T 45).eqok = true → Try.prog.stoodInHeld 45 = false ∧ Try.prog.eqGuardType Try.prog.depth 45 = false ∧ ∃ gs, Try.prog.underlying 45 = some (.struct gs) ∧ ∀ f ∈ gs.toList, f.name ≠ "_") :=
  mk1 (P := Try.prog) (t := 45) (ti := ⟨.func, 1, 8, .nilFunc, false⟩) (by kernel_rfl) Try.underlying45 ⟨_, _, _, rfl⟩ (fun h => by simp at h)
theorem ti46 : ∃ i d, Try.prog.info? 46 = some i ∧ Try.prog.underlying 46 = some d ∧ TyRel (T 46).ty d ∧ i.size = (T 46).size ∧ i.bytes = (T 46).bytes ∧ i.zero = some (T 46).zero ∧ ((T 46).eqok = true → Try.prog.stoodInHeld 46 = false ∧ Try.prog.eqGuardType Try.prog.depth 46 = false ∧ ∃ gs, Try.prog.underlying 46 = some (.struct gs) ∧ ∀ f ∈ gs.toList, f.name ≠ "_") :=
  mk1 (P := Try.prog) (t := 46) (ti := ⟨.func, 1, 8, .nilFunc, false⟩) (by kernel_rfl) Try.underlying46 ⟨_, _, _, rfl⟩ (fun h => by simp at h)
theorem ti47 : ∃ i d, Try.prog.info? 47 = some i ∧ Try.prog.underlying 47 = some d ∧ TyRel (T 47).ty d ∧ i.size = (T 47).size ∧ i.bytes = (T 47).bytes ∧ i.zero = some (T 47).zero ∧ ((T 47).eqok = true → Try.prog.stoodInHeld 47 = false ∧ Try.prog.eqGuardType Try.prog.depth 47 = false ∧ ∃ gs, Try.prog.underlying 47 = some (.struct gs) ∧ ∀ f ∈ gs.toList, f.name ≠ "_") :=
  mk1 (P := Try.prog) (t := 47) (ti := ⟨.func, 1, 8, .nilFunc, false⟩) (by kernel_rfl) Try.underlying47 ⟨_, _, _, rfl⟩ (fun h => by simp at h)
theorem ti48 : ∃ i d, Try.prog.info? 48 = some i ∧ Try.prog.underlying 48 = some d ∧ TyRel (T 48).ty d ∧ i.size = (T 48).size ∧ i.bytes = (T 48).bytes ∧ i.zero = some (T 48).zero ∧ ((T 48).eqok = true → Try.prog.stoodInHeld 48 = false ∧ Try.prog.eqGuardType Try.prog.depth 48 = false ∧ ∃ gs, Try.prog.underlying 48 = some (.struct gs) ∧ ∀ f ∈ gs.toList, f.name ≠ "_") :=
  mk1 (P := Try.prog) (t := 48) (ti := ⟨.func, 1, 8, .nilFunc, false⟩) (by kernel_rfl) Try.underlying48 ⟨_, _, _, rfl⟩ (fun h => by simp at h)
theorem ti49 : ∃ i d, Try.prog.info? 49 = some i ∧ Try.prog.underlying 49 = some d ∧ TyRel (T 49).ty d ∧ i.size = (T 49).size ∧ i.bytes = (T 49).bytes ∧ i.zero = some (T 49).zero ∧ ((T 49).eqok = true → Try.prog.stoodInHeld 49 = false ∧ Try.prog.eqGuardType Try.prog.depth 49 = false ∧ ∃ gs, Try.prog.underlying 49 = some (.struct gs) ∧ ∀ f ∈ gs.toList, f.name ≠ "_") :=
  mk1 (P := Try.prog) (t := 49) (ti := ⟨.func, 1, 8, .nilFunc, false⟩) (by kernel_rfl) Try.underlying49 ⟨_, _, _, rfl⟩ (fun h => by simp at h)
theorem ti50 : ∃ i d, Try.prog.info? 50 = some i ∧ Try.prog.underlying 50 = some d ∧ TyRel (T 50).ty d ∧ i.size = (T 50).size ∧ i.bytes = (T 50).bytes ∧ i.zero = some (T 50).zero ∧ ((T 50).eqok = true → Try.prog.stoodInHeld 50 = false ∧ Try.prog.eqGuardType Try.prog.depth 50 = false ∧ ∃ gs, Try.prog.underlying 50 = some (.struct gs) ∧ ∀ f ∈ gs.toList, f.name ≠ "_") :=
  mk1 (P := Try.prog) (t := 50) (ti := ⟨.map 3 4, 1, 8, .map none, false⟩) (by kernel_rfl) Try.underlying50 rfl (fun h => by simp at h)
theorem ti51 : ∃ i d, Try.prog.info? 51 = some i ∧ Try.prog.underlying 51 = some d ∧ TyRel (T 51).ty d ∧ i.size = (T 51).size ∧ i.bytes = (T 51).bytes ∧ i.zero = some (T 51).zero ∧ ((T 51).eqok = true → Try.prog.stoodInHeld 51 = false ∧ Try.prog.eqGuardType Try.prog.depth 51 = false ∧ ∃ gs, Try.prog.underlying 51 = some (.struct gs) ∧ ∀ f ∈ gs.toList, f.name ≠ "_") :=
  mk1 (P := Try.prog) (t := 51) (ti := ⟨.struct [(3, 0), (3, 1), (3, 2), (3, 3)], 4, 32, .agg #[.int .i64 0, .int .i64 0, .int .i64 0, .int .i64 0], false⟩) (by kernel_rfl) Try.underlying51 ⟨_, rfl, rfl⟩ (fun h => by simp at h)
theorem ti52 : ∃ i d, Try.prog.info? 52 = some i ∧ Try.prog.underlying 52 = some d ∧ TyRel (T 52).ty d ∧ i.size = (T 52).size ∧ i.bytes = (T 52).bytes ∧ i.zero = some (T 52).zero ∧ ((T 52).eqok = true → Try.prog.stoodInHeld 52 = false ∧ Try.prog.eqGuardType Try.prog.depth 52 = false ∧ ∃ gs, Try.prog.underlying 52 = some (.struct gs) ∧ ∀ f ∈ gs.toList, f.name ≠ "_") :=
  mk1 (P := Try.prog) (t := 52) (ti := ⟨.struct [(3, 0), (3, 1), (3, 2), (3, 3)], 4, 32, .agg #[.int .i64 0, .int .i64 0, .int .i64 0, .int .i64 0], true⟩) (by kernel_rfl) Try.underlying52 ⟨_, rfl, rfl⟩ (fun _ => ⟨by kernel_rfl, by kernel_rfl, _, Try.underlying52, by simp⟩)
theorem ti54 : ∃ i d, Try.prog.info? 54 = some i ∧ Try.prog.underlying 54 = some d ∧ TyRel (T 54).ty d ∧ i.size = (T 54).size ∧ i.bytes = (T 54).bytes ∧ i.zero = some (T 54).zero ∧ ((T 54).eqok = true → Try.prog.stoodInHeld 54 = false ∧ Try.prog.eqGuardType Try.prog.depth 54 = false ∧ ∃ gs, Try.prog.underlying 54 = some (.struct gs) ∧ ∀ f ∈ gs.toList, f.name ≠ "_") :=
  mk1 (P := Try.prog) (t := 54) (ti := ⟨.func, 1, 8, .nilFunc, false⟩) (by kernel_rfl) Try.underlying54 ⟨_, _, _, rfl⟩ (fun h => by simp at h)
theorem ti56 : ∃ i d, Try.prog.info? 56 = some i ∧ Try.prog.underlying 56 = some d ∧ TyRel (T 56).ty d ∧ i.size = (T 56).size ∧ i.bytes = (T 56).bytes ∧ i.zero = some (T 56).zero ∧ ((T 56).eqok = true → Try.prog.stoodInHeld 56 = false ∧ Try.prog.eqGuardType Try.prog.depth 56 = false ∧ ∃ gs, Try.prog.underlying 56 = some (.struct gs) ∧ ∀ f ∈ gs.toList, f.name ≠ "_") :=
  mk1 (P := Try.prog) (t := 56) (ti := ⟨.func, 1, 8, .nilFunc, false⟩) (by kernel_rfl) Try.underlying56 ⟨_, _, _, rfl⟩ (fun h => by simp at h)
theorem ti57 : ∃ i d, Try.prog.info? 57 = some i ∧ Try.prog.underlying 57 = some d ∧ TyRel (T 57).ty d ∧ i.size = (T 57).size ∧ i.bytes = (T 57).bytes ∧ i.zero = some (T 57).zero ∧ ((T 57).eqok = true → Try.prog.stoodInHeld 57 = false ∧ Try.prog.eqGuardType Try.prog.depth 57 = false ∧ ∃ gs, Try.prog.underlying 57 = some (.struct gs) ∧ ∀ f ∈ gs.toList, f.name ≠ "_") :=
  mk1 (P := Try.prog) (t := 57) (ti := ⟨.func, 1, 8, .nilFunc, false⟩) (by kernel_rfl) Try.underlying57 ⟨_, _, _, rfl⟩ (fun h => by simp at h)
theorem ti58 : ∃ i d, Try.prog.info? 58 = some i ∧ Try.prog.underlying 58 = some d ∧ TyRel (T 58).ty d ∧ i.size = (T 58).size ∧ i.bytes = (T 58).bytes ∧ i.zero = some (T 58).zero ∧ ((T 58).eqok = true → Try.prog.stoodInHeld 58 = false ∧ Try.prog.eqGuardType Try.prog.depth 58 = false ∧ ∃ gs, Try.prog.underlying 58 = some (.struct gs) ∧ ∀ f ∈ gs.toList, f.name ≠ "_") :=
  mk1 (P := Try.prog) (t := 58) (ti := ⟨.func, 1, 8, .nilFunc, false⟩) (by kernel_rfl) Try.underlying58 ⟨_, _, _, rfl⟩ (fun h => by simp at h)
theorem ti59 : ∃ i d, Try.prog.info? 59 = some i ∧ Try.prog.underlying 59 = some d ∧ TyRel (T 59).ty d ∧ i.size = (T 59).size ∧ i.bytes = (T 59).bytes ∧ i.zero = some (T 59).zero ∧ ((T 59).eqok = true → Try.prog.stoodInHeld 59 = false ∧ Try.prog.eqGuardType Try.prog.depth 59 = false ∧ ∃ gs, Try.prog.underlying 59 = some (.struct gs) ∧ ∀ f ∈ gs.toList, f.name ≠ "_") :=
  mk1 (P := Try.prog) (t := 59) (ti := ⟨.func, 1, 8, .nilFunc, false⟩) (by kernel_rfl) Try.underlying59 ⟨_, _, _, rfl⟩ (fun h => by simp at h)
theorem ti60 : ∃ i d, Try.prog.info? 60 = some i ∧ Try.prog.underlying 60 = some d ∧ TyRel (T 60).ty d ∧ i.size = (T 60).size ∧ i.bytes = (T 60).bytes ∧ i.zero = some (T 60).zero ∧ ((T 60).eqok = true → Try.prog.stoodInHeld 60 = false ∧ Try.prog.eqGuardType Try.prog.depth 60 = false ∧ ∃ gs, Try.prog.underlying 60 = some (.struct gs) ∧ ∀ f ∈ gs.toList, f.name ≠ "_") :=
  mk1 (P := Try.prog) (t := 60) (ti := ⟨.func, 1, 8, .nilFunc, false⟩) (by kernel_rfl) Try.underlying60 ⟨_, _, _, rfl⟩ (fun h => by simp at h)
theorem ti61 : ∃ i d, Try.prog.info? 61 = some i ∧ Try.prog.underlying 61 = some d ∧ TyRel (T 61).ty d ∧ i.size = (T 61).size ∧ i.bytes = (T 61).bytes ∧ i.zero = some (T 61).zero ∧ ((T 61).eqok = true → Try.prog.stoodInHeld 61 = false ∧ Try.prog.eqGuardType Try.prog.depth 61 = false ∧ ∃ gs, Try.prog.underlying 61 = some (.struct gs) ∧ ∀ f ∈ gs.toList, f.name ≠ "_") :=
  mk1 (P := Try.prog) (t := 61) (ti := ⟨.struct [(52, 0), (52, 4), (38, 8), (25, 9)], 10, 80, .agg #[.int .i64 0, .int .i64 0, .int .i64 0, .int .i64 0, .int .i64 0, .int .i64 0, .int .i64 0, .int .i64 0, .int .u64 0, .int .u32 0], false⟩) (by kernel_rfl) Try.underlying61 ⟨_, rfl, rfl⟩ (fun h => by simp at h)
theorem ti62 : ∃ i d, Try.prog.info? 62 = some i ∧ Try.prog.underlying 62 = some d ∧ TyRel (T 62).ty d ∧ i.size = (T 62).size ∧ i.bytes = (T 62).bytes ∧ i.zero = some (T 62).zero ∧ ((T 62).eqok = true → Try.prog.stoodInHeld 62 = false ∧ Try.prog.eqGuardType Try.prog.depth 62 = false ∧ ∃ gs, Try.prog.underlying 62 = some (.struct gs) ∧ ∀ f ∈ gs.toList, f.name ≠ "_") :=
  mk1 (P := Try.prog) (t := 62) (ti := ⟨.struct [(52, 0), (52, 4), (38, 8), (25, 9)], 10, 80, .agg #[.int .i64 0, .int .i64 0, .int .i64 0, .int .i64 0, .int .i64 0, .int .i64 0, .int .i64 0, .int .i64 0, .int .u64 0, .int .u32 0], true⟩) (by kernel_rfl) Try.underlying62 ⟨_, rfl, rfl⟩ (fun _ => ⟨by kernel_rfl, by kernel_rfl, _, Try.underlying62, by simp⟩)
theorem ti63 : ∃ i d, Try.prog.info? 63 = some i ∧ Try.prog.underlying 63 = some d ∧ TyRel (T 63).ty d ∧ i.size = (T 63).size ∧ i.bytes = (T 63).bytes ∧ i.zero = some (T 63).zero ∧ ((T 63).eqok = true → Try.prog.stoodInHeld 63 = false ∧ Try.prog.eqGuardType Try.prog.depth 63 = false ∧ ∃ gs, Try.prog.underlying 63 = some (.struct gs) ∧ ∀ f ∈ gs.toList, f.name ≠ "_") :=
  mk1 (P := Try.prog) (t := 63) (ti := ⟨.func, 1, 8, .nilFunc, false⟩) (by kernel_rfl) Try.underlying63 ⟨_, _, _, rfl⟩ (fun h => by simp at h)
theorem ti64 : ∃ i d, Try.prog.info? 64 = some i ∧ Try.prog.underlying 64 = some d ∧ TyRel (T 64).ty d ∧ i.size = (T 64).size ∧ i.bytes = (T 64).bytes ∧ i.zero = some (T 64).zero ∧ ((T 64).eqok = true → Try.prog.stoodInHeld 64 = false ∧ Try.prog.eqGuardType Try.prog.depth 64 = false ∧ ∃ gs, Try.prog.underlying 64 = some (.struct gs) ∧ ∀ f ∈ gs.toList, f.name ≠ "_") :=
  mk1 (P := Try.prog) (t := 64) (ti := ⟨.func, 1, 8, .nilFunc, false⟩) (by kernel_rfl) Try.underlying64 ⟨_, _, _, rfl⟩ (fun h => by simp at h)
theorem ti66 : ∃ i d, Try.prog.info? 66 = some i ∧ Try.prog.underlying 66 = some d ∧ TyRel (T 66).ty d ∧ i.size = (T 66).size ∧ i.bytes = (T 66).bytes ∧ i.zero = some (T 66).zero ∧ ((T 66).eqok = true → Try.prog.stoodInHeld 66 = false ∧ Try.prog.eqGuardType Try.prog.depth 66 = false ∧ ∃ gs, Try.prog.underlying 66 = some (.struct gs) ∧ ∀ f ∈ gs.toList, f.name ≠ "_") :=
  mk1 (P := Try.prog) (t := 66) (ti := ⟨.func, 1, 8, .nilFunc, false⟩) (by kernel_rfl) Try.underlying66 ⟨_, _, _, rfl⟩ (fun h => by simp at h)
theorem ti67 : ∃ i d, Try.prog.info? 67 = some i ∧ Try.prog.underlying 67 = some d ∧ TyRel (T 67).ty d ∧ i.size = (T 67).size ∧ i.bytes = (T 67).bytes ∧ i.zero = some (T 67).zero ∧ ((T 67).eqok = true → Try.prog.stoodInHeld 67 = false ∧ Try.prog.eqGuardType Try.prog.depth 67 = false ∧ ∃ gs, Try.prog.underlying 67 = some (.struct gs) ∧ ∀ f ∈ gs.toList, f.name ≠ "_") :=
  mk1 (P := Try.prog) (t := 67) (ti := ⟨.array 2 23, 2, 48, .agg #[.slice none 0 0, .slice none 0 0], false⟩) (by kernel_rfl) Try.underlying67 rfl (fun h => by simp at h)
theorem ti68 : ∃ i d, Try.prog.info? 68 = some i ∧ Try.prog.underlying 68 = some d ∧ TyRel (T 68).ty d ∧ i.size = (T 68).size ∧ i.bytes = (T 68).bytes ∧ i.zero = some (T 68).zero ∧ ((T 68).eqok = true → Try.prog.stoodInHeld 68 = false ∧ Try.prog.eqGuardType Try.prog.depth 68 = false ∧ ∃ gs, Try.prog.underlying 68 = some (.struct gs) ∧ ∀ f ∈ gs.toList, f.name ≠ "_") :=
  mk1 (P := Try.prog) (t := 68) (ti := ⟨.func, 1, 8, .nilFunc, false⟩) (by kernel_rfl) Try.underlying68 ⟨_, _, _, rfl⟩ (fun h => by simp at h)
theorem ti69 : ∃ i d, Try.prog.info? 69 = some i ∧ Try.prog.underlying 69 = some d ∧ TyRel (T 69).ty d ∧ i.size = (T 69).size ∧ i.bytes = (T 69).bytes ∧ i.zero = some (T 69).zero ∧ ((T 69).eqok = true → Try.prog.stoodInHeld 69 = false ∧ Try.prog.eqGuardType Try.prog.depth 69 = false ∧ ∃ gs, Try.prog.underlying 69 = some (.struct gs) ∧ ∀ f ∈ gs.toList, f.name ≠ "_") :=
  mk1 (P := Try.prog) (t := 69) (ti := ⟨.array 256 25, 256, 1024, .agg (Array.replicate 256 (.int .u32 0)), false⟩) (by kernel_rfl) Try.underlying69 rfl (fun h => by simp at h)
theorem ti70 : ∃ i d, Try.prog.info? 70 = some i ∧ Try.prog.underlying 70 = some d ∧ TyRel (T 70).ty d ∧ i.size = (T 70).size ∧ i.bytes = (T 70).bytes ∧ i.zero = some (T 70).zero ∧ ((T 70).eqok = true → Try.prog.stoodInHeld 70 = false ∧ Try.prog.eqGuardType Try.prog.depth 70 = false ∧ ∃ gs, Try.prog.underlying 70 = some (.struct gs) ∧ ∀ f ∈ gs.toList, f.name ≠ "_") :=
  mk1 (P := Try.prog) (t := 70) (ti := ⟨.func, 1, 8, .nilFunc, false⟩) (by kernel_rfl) Try.underlying70 ⟨_, _, _, rfl⟩ (fun h => by simp at h)
theorem ti71 : ∃ i d, Try.prog.info? 71 = some i ∧ Try.prog.underlying 71 = some d ∧ TyRel (T 71).ty d ∧ i.size = (T 71).size ∧ i.bytes = (T 71).bytes ∧ i.zero = some (T 71).zero ∧ ((T 71).eqok = true → Try.prog.stoodInHeld 71 = false ∧ Try.prog.eqGuardType Try.prog.depth 71 = false ∧ ∃ gs, Try.prog.underlying 71 = some (.struct gs) ∧ ∀ f ∈ gs.toList, f.name ≠ "_") :=
  mk1 (P := Try.prog) (t := 71) (ti := ⟨.array 4 5, 4, 4, .agg #[.int .u8 0, .int .u8 0, .int .u8 0, .int .u8 0], false⟩) (by kernel_rfl) Try.underlying71 rfl (fun h => by simp at h)
theorem ti72 : ∃ i d, Try.prog.info? 72 = some i ∧ Try.prog.underlying 72 = some d ∧ TyRel (T 72).ty d ∧ i.size = (T 72).size ∧ i.bytes = (T 72).bytes ∧ i.zero = some (T 72).zero ∧ ((T 72).eqok = true → Try.prog.stoodInHeld 72 = false ∧ Try.prog.eqGuardType Try.prog.depth 72 = false ∧ ∃ gs, Try.prog.underlying 72 = some (.struct gs) ∧ ∀ f ∈ gs.toList, f.name ≠ "_") :=
  mk1 (P := Try.prog) (t := 72) (ti := ⟨.func, 1, 8, .nilFunc, false⟩) (by kernel_rfl) Try.underlying72 ⟨_, _, _, rfl⟩ (fun h => by simp at h)
theorem ti73 : ∃ i d, Try.prog.info? 73 = some i ∧ Try.prog.underlying 73 = some d ∧ TyRel (T 73).ty d ∧ i.size = (T 73).size ∧ i.bytes = (T 73).bytes ∧ i.zero = some (T 73).zero ∧ ((T 73).eqok = true → Try.prog.stoodInHeld 73 = false ∧ Try.prog.eqGuardType Try.prog.depth 73 = false ∧ ∃ gs, Try.prog.underlying 73 = some (.struct gs) ∧ ∀ f ∈ gs.toList, f.name ≠ "_") :=
  mk1 (P := Try.prog) (t := 73) (ti := ⟨.func, 1, 8, .nilFunc, false⟩) (by kernel_rfl) Try.underlying73 ⟨_, _, _, rfl⟩ (fun h => by simp at h)
theorem ti74 : ∃ i d, Try.prog.info? 74 = some i ∧ Try.prog.underlying 74 = some d ∧ TyRel (T 74).ty d ∧ i.size = (T 74).size ∧ i.bytes = (T 74).bytes ∧ i.zero = some (T 74).zero ∧ ((T 74).eqok = true → Try.prog.stoodInHeld 74 = false ∧ Try.prog.eqGuardType Try.prog.depth 74 = false ∧ ∃ gs, Try.prog.underlying 74 = some (.struct gs) ∧ ∀ f ∈ gs.toList, f.name ≠ "_") :=
  mk1 (P := Try.prog) (t := 74) (ti := ⟨.func, 1, 8, .nilFunc, false⟩) (by kernel_rfl) Try.underlying74 ⟨_, _, _, rfl⟩ (fun h => by simp at h)
theorem ti75 : ∃ i d, Try.prog.info? 75 = some i ∧ Try.prog.underlying 75 = some d ∧ TyRel (T 75).ty d ∧ i.size = (T 75).size ∧ i.bytes = (T 75).bytes ∧ i.zero = some (T 75).zero ∧ ((T 75).eqok = true → Try.prog.stoodInHeld 75 = false ∧ Try.prog.eqGuardType Try.prog.depth 75 = false ∧ ∃ gs, Try.prog.underlying 75 = some (.struct gs) ∧ ∀ f ∈ gs.toList, f.name ≠ "_") :=
  mk1 (P := Try.prog) (t := 75) (ti := ⟨.func, 1, 8, .nilFunc, false⟩) (by kernel_rfl) Try.underlying75 ⟨_, _, _, rfl⟩ (fun h => by simp at h)
theorem ti76 : ∃ i d, Try.prog.info? 76 = some i ∧ Try.prog.underlying 76 = some d ∧ TyRel (T 76).ty d ∧ i.size = (T 76).size ∧ i.bytes = (T 76).bytes ∧ i.zero = some (T 76).zero ∧ ((T 76).eqok = true → Try.prog.stoodInHeld 76 = false ∧ Try.prog.eqGuardType Try.prog.depth 76 = false ∧ ∃ gs, Try.prog.underlying 76 = some (.struct gs) ∧ ∀ f ∈ gs.toList, f.name ≠ "_") :=
  mk1 (P := Try.prog) (t := 76) (ti := ⟨.func, 1, 8, .nilFunc, false⟩) (by kernel_rfl) Try.underlying76 ⟨_, _, _, rfl⟩ (fun h => by simp at h)
theorem ti77 : ∃ i d, Try.prog.info? 77 = some i ∧ Try.prog.underlying 77 = some d ∧ TyRel (T 77).ty d ∧ i.size = (T 77).size ∧ i.bytes = (T 77).bytes ∧ i.zero = some (T 77).zero ∧ ((T 77).eqok = true → Try.prog.stoodInHeld 77 = false ∧ Try.prog.eqGuardType Try.prog.depth 77 = false ∧ ∃ gs, Try.prog.underlying 77 = some (.struct gs) ∧ ∀ f ∈ gs.toList, f.name ≠ "_") :=
  mk1 (P := Try.prog) (t := 77) (ti := ⟨.func, 1, 8, .nilFunc, false⟩) (by kernel_rfl) Try.underlying77 ⟨_, _, _, rfl⟩ (fun h => by simp at h)
theorem ti78 : ∃ i d, Try.prog.info? 78 = some i ∧ Try.prog.underlying 78 = some d ∧ TyRel (T 78).ty d ∧ i.size = (T 78).size ∧ i.bytes = (T 78).bytes ∧ i.zero = some (T 78).zero ∧ ((T 78).eqok = true → Try.prog.stoodInHeld 78 = false ∧ Try.prog.eqGuardType Try.prog.depth 78 = false ∧ ∃ gs, Try.prog.underlying 78 = some (.struct gs) ∧ ∀ f ∈ gs.toList, f.name ≠ "_") :=
  mk1 (P := Try.prog) (t := 78) (ti := ⟨.func, 1, 8, .nilFunc, false⟩) (by kernel_rfl) Try.underlying78 ⟨_, _, _, rfl⟩ (fun h => by simp at h)
theorem ti79 : ∃ i d, Try.prog.info? 79 = some i ∧ Try.prog.underlying 79 = some d ∧ TyRel (T 79).ty d ∧ i.size = (T 79).size ∧ i.bytes = (T 79).bytes ∧ i.zero = some (T 79).zero ∧ ((T 79).eqok = true → Try.prog.stoodInHeld 79 = false ∧ Try.prog.eqGuardType Try.prog.depth 79 = false ∧ ∃ gs, Try.prog.underlying 79 = some (.struct gs) ∧ ∀ f ∈ gs.toList, f.name ≠ "_") :=
  mk1 (P := Try.prog) (t := 79) (ti := ⟨.struct [(17, 0), (17, 1), (17, 2), (9, 3)], 4, 40, .agg #[.pointer none, .pointer none, .pointer none, .string ⟨#[]⟩], false⟩) (by kernel_rfl) Try.underlying79 ⟨_, rfl, rfl⟩ (fun h => by simp at h)
theorem ti80 : ∃ i d, Try.prog.info? 80 = some i ∧ Try.prog.underlying 80 = some d ∧ TyRel (T 80).ty d ∧ i.size = (T 80).size ∧ i.bytes = (T 80).bytes ∧ i.zero = some (T 80).zero ∧ ((T 80).eqok = true → Try.prog.stoodInHeld 80 = false ∧ Try.prog.eqGuardType Try.prog.depth 80 = false ∧ ∃ gs, Try.prog.underlying 80 = some (.struct gs) ∧ ∀ f ∈ gs.toList, f.name ≠ "_") :=
  mk1 (P := Try.prog) (t := 80) (ti := ⟨.struct [(17, 0), (17, 1), (17, 2), (9, 3)], 4, 40, .agg #[.pointer none, .pointer none, .pointer none, .string ⟨#[]⟩], false⟩) (by kernel_rfl) Try.underlying80 ⟨_, rfl, rfl⟩ (fun h => by simp at h)
theorem ti81 : ∃ i d, Try.prog.info? 81 = some i ∧ Try.prog.underlying 81 = some d ∧ TyRel (T 81).ty d ∧ i.size = (T 81).size ∧ i.bytes = (T 81).bytes ∧ i.zero = some (T 81).zero ∧ ((T 81).eqok = true → Try.prog.stoodInHeld 81 = false ∧ Try.prog.eqGuardType Try.prog.depth 81 = false ∧ ∃ gs, Try.prog.underlying 81 = some (.struct gs) ∧ ∀ f ∈ gs.toList, f.name ≠ "_") :=
  mk1 (P := Try.prog) (t := 81) (ti := ⟨.array 0 16, 0, 0, .agg #[], false⟩) (by kernel_rfl) Try.underlying81 rfl (fun h => by simp at h)
theorem ti82 : ∃ i d, Try.prog.info? 82 = some i ∧ Try.prog.underlying 82 = some d ∧ TyRel (T 82).ty d ∧ i.size = (T 82).size ∧ i.bytes = (T 82).bytes ∧ i.zero = some (T 82).zero ∧ ((T 82).eqok = true → Try.prog.stoodInHeld 82 = false ∧ Try.prog.eqGuardType Try.prog.depth 82 = false ∧ ∃ gs, Try.prog.underlying 82 = some (.struct gs) ∧ ∀ f ∈ gs.toList, f.name ≠ "_") :=
  mk1 (P := Try.prog) (t := 82) (ti := ⟨.struct [(81, 0)], 0, 0, .agg #[], false⟩) (by kernel_rfl) Try.underlying82 ⟨_, rfl, rfl⟩ (fun h => by simp at h)
theorem ti83 : ∃ i d, Try.prog.info? 83 = some i ∧ Try.prog.underlying 83 = some d ∧ TyRel (T 83).ty d ∧ i.size = (T 83).size ∧ i.bytes = (T 83).bytes ∧ i.zero = some (T 83).zero ∧ ((T 83).eqok = true → Try.prog.stoodInHeld 83 = false ∧ Try.prog.eqGuardType Try.prog.depth 83 = false ∧ ∃ gs, Try.prog.underlying 83 = some (.struct gs) ∧ ∀ f ∈ gs.toList, f.name ≠ "_") :=
  mk1 (P := Try.prog) (t := 83) (ti := ⟨.struct [(81, 0)], 0, 0, .agg #[], false⟩) (by kernel_rfl) Try.underlying83 ⟨_, rfl, rfl⟩ (fun h => by simp at h)
theorem ti84 : ∃ i d, Try.prog.info? 84 = some i ∧ Try.prog.underlying 84 = some d ∧ TyRel (T 84).ty d ∧ i.size = (T 84).size ∧ i.bytes = (T 84).bytes ∧ i.zero = some (T 84).zero ∧ ((T 84).eqok = true → Try.prog.stoodInHeld 84 = false ∧ Try.prog.eqGuardType Try.prog.depth 84 = false ∧ ∃ gs, Try.prog.underlying 84 = some (.struct gs) ∧ ∀ f ∈ gs.toList, f.name ≠ "_") :=
  mk1 (P := Try.prog) (t := 84) (ti := ⟨.func, 1, 8, .nilFunc, false⟩) (by kernel_rfl) Try.underlying84 ⟨_, _, _, rfl⟩ (fun h => by simp at h)
theorem ti85 : ∃ i d, Try.prog.info? 85 = some i ∧ Try.prog.underlying 85 = some d ∧ TyRel (T 85).ty d ∧ i.size = (T 85).size ∧ i.bytes = (T 85).bytes ∧ i.zero = some (T 85).zero ∧ ((T 85).eqok = true → Try.prog.stoodInHeld 85 = false ∧ Try.prog.eqGuardType Try.prog.depth 85 = false ∧ ∃ gs, Try.prog.underlying 85 = some (.struct gs) ∧ ∀ f ∈ gs.toList, f.name ≠ "_") :=
  mk1 (P := Try.prog) (t := 85) (ti := ⟨.int .u8, 1, 1, .int .u8 0, false⟩) (by kernel_rfl) Try.underlying85 rfl (fun h => by simp at h)
theorem ti86 : ∃ i d, Try.prog.info? 86 = some i ∧ Try.prog.underlying 86 = some d ∧ TyRel (T 86).ty d ∧ i.size = (T 86).size ∧ i.bytes = (T 86).bytes ∧ i.zero = some (T 86).zero ∧ ((T 86).eqok = true → Try.prog.stoodInHeld 86 = false ∧ Try.prog.eqGuardType Try.prog.depth 86 = false ∧ ∃ gs, Try.prog.underlying 86 = some (.struct gs) ∧ ∀ f ∈ gs.toList, f.name ≠ "_") :=
  mk1 (P := Try.prog) (t := 86) (ti := ⟨.int .u8, 1, 1, .int .u8 0, false⟩) (by kernel_rfl) Try.underlying86 rfl (fun h => by simp at h)
theorem ti87 : ∃ i d, Try.prog.info? 87 = some i ∧ Try.prog.underlying 87 = some d ∧ TyRel (T 87).ty d ∧ i.size = (T 87).size ∧ i.bytes = (T 87).bytes ∧ i.zero = some (T 87).zero ∧ ((T 87).eqok = true → Try.prog.stoodInHeld 87 = false ∧ Try.prog.eqGuardType Try.prog.depth 87 = false ∧ ∃ gs, Try.prog.underlying 87 = some (.struct gs) ∧ ∀ f ∈ gs.toList, f.name ≠ "_") :=
  mk1 (P := Try.prog) (t := 87) (ti := ⟨.func, 1, 8, .nilFunc, false⟩) (by kernel_rfl) Try.underlying87 ⟨_, _, _, rfl⟩ (fun h => by simp at h)
theorem ti88 : ∃ i d, Try.prog.info? 88 = some i ∧ Try.prog.underlying 88 = some d ∧ TyRel (T 88).ty d ∧ i.size = (T 88).size ∧ i.bytes = (T 88).bytes ∧ i.zero = some (T 88).zero ∧ ((T 88).eqok = true → Try.prog.stoodInHeld 88 = false ∧ Try.prog.eqGuardType Try.prog.depth 88 = false ∧ ∃ gs, Try.prog.underlying 88 = some (.struct gs) ∧ ∀ f ∈ gs.toList, f.name ≠ "_") :=
  mk1 (P := Try.prog) (t := 88) (ti := ⟨.ptr 5, 1, 8, .pointer none, false⟩) (by kernel_rfl) Try.underlying88 rfl (fun h => by simp at h)
theorem ti89 : ∃ i d, Try.prog.info? 89 = some i ∧ Try.prog.underlying 89 = some d ∧ TyRel (T 89).ty d ∧ i.size = (T 89).size ∧ i.bytes = (T 89).bytes ∧ i.zero = some (T 89).zero ∧ ((T 89).eqok = true → Try.prog.stoodInHeld 89 = false ∧ Try.prog.eqGuardType Try.prog.depth 89 = false ∧ ∃ gs, Try.prog.underlying 89 = some (.struct gs) ∧ ∀ f ∈ gs.toList, f.name ≠ "_") :=
  mk1 (P := Try.prog) (t := 89) (ti := ⟨.int .i32, 1, 4, .int .i32 0, false⟩) (by kernel_rfl) Try.underlying89 rfl (fun h => by simp at h)
theorem ti90 : ∃ i d, Try.prog.info? 90 = some i ∧ Try.prog.underlying 90 = some d ∧ TyRel (T 90).ty d ∧ i.size = (T 90).size ∧ i.bytes = (T 90).bytes ∧ i.zero = some (T 90).zero ∧ ((T 90).eqok = true → Try.prog.stoodInHeld 90 = false ∧ Try.prog.eqGuardType Try.prog.depth 90 = false ∧ ∃ gs, Try.prog.underlying 90 = some (.struct gs) ∧ ∀ f ∈ gs.toList, f.name ≠ "_") :=
  mk1 (P := Try.prog) (t := 90) (ti := ⟨.int .i32, 1, 4, .int .i32 0, false⟩) (by kernel_rfl) Try.underlying90 rfl (fun h => by simp at h)
theorem ti91 : ∃ i d, Try.prog.info? 91 = some i ∧ Try.prog.underlying 91 = some d ∧ TyRel (T 91).ty d ∧ i.size = (T 91).size ∧ i.bytes = (T 91).bytes ∧ i.zero = some (T 91).zero ∧ ((T 91).eqok = true → Try.prog.stoodInHeld 91 = false ∧ Try.prog.eqGuardType Try.prog.depth 91 = false ∧ ∃ gs, Try.prog.underlying 91 = some (.struct gs) ∧ ∀ f ∈ gs.toList, f.name ≠ "_") :=
  mk1 (P := Try.prog) (t := 91) (ti := ⟨.struct [(12, 0), (12, 1), (25, 2), (85, 3), (5, 4), (5, 5), (86, 6), (87, 7), (88, 8), (89, 9), (90, 10)], 11, 48, .agg #[.int .u64 0, .int .u64 0, .int .u32 0, .int .u8 0, .int .u8 0, .int .u8 0, .int .u8 0, .nilFunc, .pointer none, .int .i32 0, .int .i32 0], false⟩) (by kernel_rfl) Try.underlying91 ⟨_, rfl, rfl⟩ (fun h => by simp at h)
theorem ti92 : ∃ i d, Try.prog.info? 92 = some i ∧ Try.prog.underlying 92 = some d ∧ TyRel (T 92).ty d ∧ i.size = (T 92).size ∧ i.bytes = (T 92).bytes ∧ i.zero = some (T 92).zero ∧ ((T 92).eqok = true → Try.prog.stoodInHeld 92 = false ∧ Try.prog.eqGuardType Try.prog.depth 92 = false ∧ ∃ gs, Try.prog.underlying 92 = some (.struct gs) ∧ ∀ f ∈ gs.toList, f.name ≠ "_") :=
  mk1 (P := Try.prog) (t := 92) (ti := ⟨.struct [(12, 0), (12, 1), (25, 2), (85, 3), (5, 4), (5, 5), (86, 6), (87, 7), (88, 8), (89, 9), (90, 10)], 11, 48, .agg #[.int .u64 0, .int .u64 0, .int .u32 0, .int .u8 0, .int .u8 0, .int .u8 0, .int .u8 0, .nilFunc, .pointer none, .int .i32 0, .int .i32 0], false⟩) (by kernel_rfl) Try.underlying92 ⟨_, rfl, rfl⟩ (fun h => by simp at h)
@[go_sem] theorem T_1 : T 1 = ⟨.func, 1, 8, .nilFunc, false⟩ := rfl
@[go_sem] theorem T_2 : T 2 = ⟨.int .i64, 1, 8, .int .i64 0, false⟩ := rfl
@[go_sem] theorem T_3 : T 3 = ⟨.int .i64, 1, 8, .int .i64 0, false⟩ := rfl
@[go_sem] theorem T_4 : T 4 = ⟨.bool, 1, 1, .bool false, false⟩ := rfl
@[go_sem] theorem T_5 : T 5 = ⟨.int .u8, 1, 1, .int .u8 0, false⟩ := rfl
@[go_sem] theorem T_6 : T 6 = ⟨.int .u8, 1, 1, .int .u8 0, false⟩ := rfl
@[go_sem] theorem T_7 : T 7 = ⟨.struct [(2, 0), (3, 1), (4, 2), (6, 3)], 4, 24, .agg #[.int .i64 0, .int .i64 0, .bool false, .int .u8 0], false⟩ := rfl
@[go_sem] theorem T_8 : T 8 = ⟨.struct [(2, 0), (3, 1), (4, 2), (6, 3)], 4, 24, .agg #[.int .i64 0, .int .i64 0, .bool false, .int .u8 0], false⟩ := rfl
@[go_sem] theorem T_9 : T 9 = ⟨.str, 1, 16, .string ⟨#[]⟩, false⟩ := rfl
@[go_sem] theorem T_10 : T 10 = ⟨.str, 1, 16, .string ⟨#[]⟩, false⟩ := rfl
@[go_sem] theorem T_11 : T 11 = ⟨.str, 1, 16, .string ⟨#[]⟩, false⟩ := rfl
@[go_sem] theorem T_12 : T 12 = ⟨.int .u64, 1, 8, .int .u64 0, false⟩ := rfl
@[go_sem] theorem T_13 : T 13 = ⟨.struct [(9, 0), (12, 1)], 2, 24, .agg #[.string ⟨#[]⟩, .int .u64 0], false⟩ := rfl
@[go_sem] theorem T_14 : T 14 = ⟨.struct [(9, 0), (12, 1)], 2, 24, .agg #[.string ⟨#[]⟩, .int .u64 0], false⟩ := rfl
@[go_sem] theorem T_15 : T 15 = ⟨.ptr 80, 1, 8, .pointer none, false⟩ := rfl
@[go_sem] theorem T_16 : T 16 = ⟨.ptr 83, 1, 8, .pointer none, false⟩ := rfl
@[go_sem] theorem T_17 : T 17 = ⟨.ptr 92, 1, 8, .pointer none, false⟩ := rfl
@[go_sem] theorem T_18 : T 18 = ⟨.struct [(17, 0)], 1, 8, .agg #[.pointer none], false⟩ := rfl
@[go_sem] theorem T_19 : T 19 = ⟨.struct [(17, 0)], 1, 8, .agg #[.pointer none], false⟩ := rfl
@[go_sem] theorem T_21 : T 21 = ⟨.int .i32, 1, 4, .int .i32 0, false⟩ := rfl
@[go_sem] theorem T_22 : T 22 = ⟨.slice 23, 1, 24, .slice none 0 0, false⟩ := rfl
@[go_sem] theorem T_23 : T 23 = ⟨.slice 5, 1, 24, .slice none 0 0, false⟩ := rfl
@[go_sem] theorem T_24 : T 24 = ⟨.func, 1, 8, .nilFunc, false⟩ := rfl
@[go_sem] theorem T_25 : T 25 = ⟨.int .u32, 1, 4, .int .u32 0, false⟩ := rfl
@[go_sem] theorem T_26 : T 26 = ⟨.func, 1, 8, .nilFunc, false⟩ := rfl
@[go_sem] theorem T_27 : T 27 = ⟨.func, 1, 8, .nilFunc, false⟩ := rfl
@[go_sem] theorem T_28 : T 28 = ⟨.func, 1, 8, .nilFunc, false⟩ := rfl
@[go_sem] theorem T_29 : T 29 = ⟨.func, 1, 8, .nilFunc, false⟩ := rfl
@[go_sem] theorem T_30 : T 30 = ⟨.func, 1, 8, .nilFunc, false⟩ := rfl
@[go_sem] theorem T_31 : T 31 = ⟨.int .i64, 1, 8, .int .i64 0, false⟩ := rfl
@[go_sem] theorem T_33 : T 33 = ⟨.func, 1, 8, .nilFunc, false⟩ := rfl
@[go_sem] theorem T_35 : T 35 = ⟨.func, 1, 8, .nilFunc, false⟩ := rfl
@[go_sem] theorem T_36 : T 36 = ⟨.func, 1, 8, .nilFunc, false⟩ := rfl
@[go_sem] theorem T_37 : T 37 = ⟨.func, 1, 8, .nilFunc, false⟩ := rfl
@[go_sem] theorem T_38 : T 38 = ⟨.int .u64, 1, 8, .int .u64 0, false⟩ := rfl
@[go_sem] theorem T_39 : T 39 = ⟨.int .u64, 1, 8, .int .u64 0, false⟩ := rfl
@[go_sem] theorem T_40 : T 40 = ⟨.func, 1, 8, .nilFunc, false⟩ := rfl
@[go_sem] theorem T_41 : T 41 = ⟨.struct [(3, 0), (3, 1)], 2, 16, .agg #[.int .i64 0, .int .i64 0], false⟩ := rfl
@[go_sem] theorem T_42 : T 42 = ⟨.struct [(3, 0), (3, 1)], 2, 16, .agg #[.int .i64 0, .int .i64 0], true⟩ := rfl
@[go_sem] theorem T_44 : T 44 = ⟨.func, 1, 8, .nilFunc, false⟩ := rfl
@[go_sem] theorem T_45 : T 45 = ⟨.func, 1, 8, .nilFunc, false⟩ := rfl
@[go_sem] theorem T_46 : T 46 = ⟨.func, 1, 8, .nilFunc, false⟩ := rfl
@[go_sem] theorem T_47 : T 47 = ⟨.func, 1, 8, .nilFunc, false⟩ := rfl
@[go_sem] theorem T_48 : T 48 = ⟨.func, 1, 8, .nilFunc, false⟩ := rfl
@[go_sem] theorem T_49 : T 49 = ⟨.func, 1, 8, .nilFunc, false⟩ := rfl
@[go_sem] theorem T_50 : T 50 = ⟨.map 3 4, 1, 8, .map none, false⟩ := rfl
@[go_sem] theorem T_51 : T 51 = ⟨.struct [(3, 0), (3, 1), (3, 2), (3, 3)], 4, 32, .agg #[.int .i64 0, .int .i64 0, .int .i64 0, .int .i64 0], false⟩ := rfl
@[go_sem] theorem T_52 : T 52 = ⟨.struct [(3, 0), (3, 1), (3, 2), (3, 3)], 4, 32, .agg #[.int .i64 0, .int .i64 0, .int .i64 0, .int .i64 0], true⟩ := rfl
@[go_sem] theorem T_54 : T 54 = ⟨.func, 1, 8, .nilFunc, false⟩ := rfl
@[go_sem] theorem T_56 : T 56 = ⟨.func, 1, 8, .nilFunc, false⟩ := rfl
@[go_sem] theorem T_57 : T 57 = ⟨.func, 1, 8, .nilFunc, false⟩ := rfl
@[go_sem] theorem T_58 : T 58 = ⟨.func, 1, 8, .nilFunc, false⟩ := rfl
@[go_sem] theorem T_59 : T 59 = ⟨.func, 1, 8, .nilFunc, false⟩ := rfl
@[go_sem] theorem T_60 : T 60 = ⟨.func, 1, 8, .nilFunc, false⟩ := rfl
@[go_sem] theorem T_61 : T 61 = ⟨.struct [(52, 0), (52, 4), (38, 8), (25, 9)], 10, 80, .agg #[.int .i64 0, .int .i64 0, .int .i64 0, .int .i64 0, .int .i64 0, .int .i64 0, .int .i64 0, .int .i64 0, .int .u64 0, .int .u32 0], false⟩ := rfl
@[go_sem] theorem T_62 : T 62 = ⟨.struct [(52, 0), (52, 4), (38, 8), (25, 9)], 10, 80, .agg #[.int .i64 0, .int .i64 0, .int .i64 0, .int .i64 0, .int .i64 0, .int .i64 0, .int .i64 0, .int .i64 0, .int .u64 0, .int .u32 0], true⟩ := rfl
@[go_sem] theorem T_63 : T 63 = ⟨.func, 1, 8, .nilFunc, false⟩ := rfl
@[go_sem] theorem T_64 : T 64 = ⟨.func, 1, 8, .nilFunc, false⟩ := rfl
@[go_sem] theorem T_66 : T 66 = ⟨.func, 1, 8, .nilFunc, false⟩ := rfl
@[go_sem] theorem T_67 : T 67 = ⟨.array 2 23, 2, 48, .agg #[.slice none 0 0, .slice none 0 0], false⟩ := rfl
@[go_sem] theorem T_68 : T 68 = ⟨.func, 1, 8, .nilFunc, false⟩ := rfl
@[go_sem] theorem T_69 : T 69 = ⟨.array 256 25, 256, 1024, .agg (Array.replicate 256 (.int .u32 0)), false⟩ := rfl
@[go_sem] theorem T_70 : T 70 = ⟨.func, 1, 8, .nilFunc, false⟩ := rfl
@[go_sem] theorem T_71 : T 71 = ⟨.array 4 5, 4, 4, .agg #[.int .u8 0, .int .u8 0, .int .u8 0, .int .u8 0], false⟩ := rfl
@[go_sem] theorem T_72 : T 72 = ⟨.func, 1, 8, .nilFunc, false⟩ := rfl
@[go_sem] theorem T_73 : T 73 = ⟨.func, 1, 8, .nilFunc, false⟩ := rfl
@[go_sem] theorem T_74 : T 74 = ⟨.func, 1, 8, .nilFunc, false⟩ := rfl
@[go_sem] theorem T_75 : T 75 = ⟨.func, 1, 8, .nilFunc, false⟩ := rfl
@[go_sem] theorem T_76 : T 76 = ⟨.func, 1, 8, .nilFunc, false⟩ := rfl
@[go_sem] theorem T_77 : T 77 = ⟨.func, 1, 8, .nilFunc, false⟩ := rfl
@[go_sem] theorem T_78 : T 78 = ⟨.func, 1, 8, .nilFunc, false⟩ := rfl
@[go_sem] theorem T_79 : T 79 = ⟨.struct [(17, 0), (17, 1), (17, 2), (9, 3)], 4, 40, .agg #[.pointer none, .pointer none, .pointer none, .string ⟨#[]⟩], false⟩ := rfl
@[go_sem] theorem T_80 : T 80 = ⟨.struct [(17, 0), (17, 1), (17, 2), (9, 3)], 4, 40, .agg #[.pointer none, .pointer none, .pointer none, .string ⟨#[]⟩], false⟩ := rfl
@[go_sem] theorem T_81 : T 81 = ⟨.array 0 16, 0, 0, .agg #[], false⟩ := rfl
@[go_sem] theorem T_82 : T 82 = ⟨.struct [(81, 0)], 0, 0, .agg #[], false⟩ := rfl
@[go_sem] theorem T_83 : T 83 = ⟨.struct [(81, 0)], 0, 0, .agg #[], false⟩ := rfl
@[go_sem] theorem T_84 : T 84 = ⟨.func, 1, 8, .nilFunc, false⟩ := rfl
@[go_sem] theorem T_85 : T 85 = ⟨.int .u8, 1, 1, .int .u8 0, false⟩ := rfl
@[go_sem] theorem T_86 : T 86 = ⟨.int .u8, 1, 1, .int .u8 0, false⟩ := rfl
@[go_sem] theorem T_87 : T 87 = ⟨.func, 1, 8, .nilFunc, false⟩ := rfl
@[go_sem] theorem T_88 : T 88 = ⟨.ptr 5, 1, 8, .pointer none, false⟩ := rfl
@[go_sem] theorem T_89 : T 89 = ⟨.int .i32, 1, 4, .int .i32 0, false⟩ := rfl
@[go_sem] theorem T_90 : T 90 = ⟨.int .i32, 1, 4, .int .i32 0, false⟩ := rfl
@[go_sem] theorem T_91 : T 91 = ⟨.struct [(12, 0), (12, 1), (25, 2), (85, 3), (5, 4), (5, 5), (86, 6), (87, 7), (88, 8), (89, 9), (90, 10)], 11, 48, .agg #[.int .u64 0, .int .u64 0, .int .u32 0, .int .u8 0, .int .u8 0, .int .u8 0, .int .u8 0, .nilFunc, .pointer none, .int .i32 0, .int .i32 0], false⟩ := rfl
@[go_sem] theorem T_92 : T 92 = ⟨.struct [(12, 0), (12, 1), (25, 2), (85, 3), (5, 4), (5, 5), (86, 6), (87, 7), (88, 8), (89, 9), (90, 10)], 11, 48, .agg #[.int .u64 0, .int .u64 0, .int .u32 0, .int .u8 0, .int .u8 0, .int .u8 0, .int .u8 0, .nilFunc, .pointer none, .int .i32 0, .int .i32 0], false⟩ := rfl

theorem tok : TOK Try.prog T := by
  intro t ⟨f, hf, hne⟩
  match t with
  | 0 => exact absurd (hf ▸ rfl) hne
  | 1 => exact ti1
  | 2 => exact ti2
  | 3 => exact ti3
  | 4 => exact ti4
  | 5 => exact ti5
  | 6 => exact ti6
  | 7 => exact ti7
  | 8 => exact ti8
  | 9 => exact ti9
  | 10 => exact ti10
  | 11 => exact ti11
  | 12 => exact ti12
  | 13 => exact ti13
  | 14 => exact ti14
  | 15 => exact ti15
  | 16 => exact ti16
  | 17 => exact ti17
  | 18 => exact ti18
  | 19 => exact ti19
  | 20 => exact absurd (hf ▸ rfl) hne
  | 21 => exact ti21
  | 22 => exact ti22
  | 23 => exact ti23
  | 24 => exact ti24
  | 25 => exact ti25
  | 26 => exact ti26
  | 27 => exact ti27
  | 28 => exact ti28
  | 29 => exact ti29
  | 30 => exact ti30
  | 31 => exact ti31
  | 32 => exact absurd (hf ▸ rfl) hne
  | 33 => exact ti33
  | 34 => exact absurd (hf ▸ rfl) hne
  | 35 => exact ti35
  | 36 => exact ti36
  | 37 => exact ti37
  | 38 => exact ti38
  | 39 => exact ti39
  | 40 => exact ti40
  | 41 => exact ti41
  | 42 => exact ti42
  | 43 => exact absurd (hf ▸ rfl) hne
  | 44 => exact ti44
  | 45 => exact ti45
  | 46 => exact ti46
  | 47 => exact ti47
  | 48 => exact ti48
  | 49 => exact ti49
  | 50 => exact ti50
  | 51 => exact ti51
  | 52 => exact ti52
  | 53 => exact absurd (hf ▸ rfl) hne
  | 54 => exact ti54
  | 55 => exact absurd (hf ▸ rfl) hne
  | 56 => exact ti56
  | 57 => exact ti57
  | 58 => exact ti58
  | 59 => exact ti59
  | 60 => exact ti60
  | 61 => exact ti61
  | 62 => exact ti62
  | 63 => exact ti63
  | 64 => exact ti64
  | 65 => exact absurd (hf ▸ rfl) hne
  | 66 => exact ti66
  | 67 => exact ti67
  | 68 => exact ti68
  | 69 => exact ti69
  | 70 => exact ti70
  | 71 => exact ti71
  | 72 => exact ti72
  | 73 => exact ti73
  | 74 => exact ti74
  | 75 => exact ti75
  | 76 => exact ti76
  | 77 => exact ti77
  | 78 => exact ti78
  | 79 => exact ti79
  | 80 => exact ti80
  | 81 => exact ti81
  | 82 => exact ti82
  | 83 => exact ti83
  | 84 => exact ti84
  | 85 => exact ti85
  | 86 => exact ti86
  | 87 => exact ti87
  | 88 => exact ti88
  | 89 => exact ti89
  | 90 => exact ti90
  | 91 => exact ti91
  | 92 => exact ti92
  | 93 => exact absurd (hf ▸ rfl) hne
  | k + 94 =>
    exfalso
    apply hne
    rw [← hf]
    rfl
abbrev n_main_main : FuncId := 0
abbrev n_gosem_cut : FuncId := 1
abbrev n_gosem_cut_init : FuncId := 2
abbrev n_bursarlaw03_CheckSums : FuncId := 3
abbrev n_bursarlaw03_CheckThree : FuncId := 4
abbrev n_bursarlaw03_CheckSeals : FuncId := 5
abbrev n_bursarlaw03_CheckFinds : FuncId := 6
abbrev n_bursarlaw03_CheckSame : FuncId := 7
abbrev n_bursarlaw07_SuperPlans : FuncId := 8
abbrev n_bursarlaw07_SuperApart : FuncId := 9
abbrev n_bursarlaw07_SuperCodes : FuncId := 10
abbrev n_bursarlaw07_SuperFinds : FuncId := 11
abbrev n_bursarlaw07_SuperChooses : FuncId := 12
abbrev n_bursarlaw07_SuperLater : FuncId := 13
abbrev n_bursarlaw03_few : FuncId := 14
abbrev n_check_Sum : FuncId := 15
abbrev n_bursarref03_Sum : FuncId := 16
abbrev n_bursarlaw03_awake : FuncId := 17
abbrev n_check_Seal : FuncId := 18
abbrev n_check_Open : FuncId := 19
abbrev n_bursarref03_Open : FuncId := 20
abbrev n_bursarref03_Seal : FuncId := 21
abbrev n_super_Log : FuncId := 22
abbrev n_super_Page : FuncId := 23
abbrev n_super_Fits : FuncId := 24
abbrev n_bursarref07_Fits : FuncId := 25
abbrev n_super_Size : FuncId := 26
abbrev n_bursarlaw07_awake : FuncId := 27
abbrev n_bursarref07_Log : FuncId := 28
abbrev n_bursarlaw07_few : FuncId := 29
abbrev n_super_Decode : FuncId := 30
abbrev n_bursarref07_Decode : FuncId := 31
abbrev n_super_May : FuncId := 32
abbrev n_bursarref07_May : FuncId := 33
abbrev n_super_Encode : FuncId := 34
abbrev n_bursarref07_Encode : FuncId := 35
abbrev n_super_Choose : FuncId := 36
abbrev n_bursarref07_Choose : FuncId := 37
abbrev n_check_words : FuncId := 38
abbrev n_check_octets : FuncId := 39
abbrev n_slices_Clone_s_byte_byte : FuncId := 40
abbrev n_super_in : FuncId := 41
abbrev n_super_half : FuncId := 42
abbrev n_super_number : FuncId := 43
abbrev n_bursarref05_Number : FuncId := 44
abbrev n_super_lay : FuncId := 45
abbrev n_bursarref05_Wide : FuncId := 46
abbrev n_runtime_boundsError_Error : FuncId := 47
abbrev n_runtime_boundsError_RuntimeError : FuncId := 48
abbrev n_runtime_errorString_Error : FuncId := 49
abbrev n_runtime_errorString_RuntimeError : FuncId := 50
abbrev n_runtime_plainError_Error : FuncId := 51
abbrev n_runtime_plainError_RuntimeError : FuncId := 52
abbrev n_runtime_errorAddressString_Error : FuncId := 53
abbrev n_runtime_errorAddressString_RuntimeError : FuncId := 54
abbrev n_runtime_TypeAssertionError_Error : FuncId := 55
abbrev n_runtime_TypeAssertionError_RuntimeError : FuncId := 56
abbrev n_runtime_PanicNilError_Error : FuncId := 57
abbrev n_runtime_PanicNilError_RuntimeError : FuncId := 58
abbrev n_abi_Type_Align : FuncId := 59
abbrev n_maps_unhashableTypeError_Error : FuncId := 60
abbrev n_maps_unhashableTypeError_RuntimeError : FuncId := 61
abbrev n_abi_Kind_String : FuncId := 62
theorem mix : Try.prog.follows .mixedOrders = true := by rfl
theorem at_bursarlaw03_CheckSums : FnAt Try.prog 3 := ⟨_, _, Try.func3, rfl, by simp [Try.f3]⟩
instance fnc_3 : FnC Try.prog 3 := ⟨at_bursarlaw03_CheckSums⟩
theorem at_bursarlaw03_CheckThree : FnAt Try.prog 4 := ⟨_, _, Try.func4, rfl, by simp [Try.f4]⟩
instance fnc_4 : FnC Try.prog 4 := ⟨at_bursarlaw03_CheckThree⟩
theorem at_bursarlaw03_CheckSeals : FnAt Try.prog 5 := ⟨_, _, Try.func5, rfl, by simp [Try.f5]⟩
instance fnc_5 : FnC Try.prog 5 := ⟨at_bursarlaw03_CheckSeals⟩
theorem at_bursarlaw03_CheckFinds : FnAt Try.prog 6 := ⟨_, _, Try.func6, rfl, by simp [Try.f6]⟩
instance fnc_6 : FnC Try.prog 6 := ⟨at_bursarlaw03_CheckFinds⟩
theorem at_bursarlaw03_CheckSame : FnAt Try.prog 7 := ⟨_, _, Try.func7, rfl, by simp [Try.f7]⟩
instance fnc_7 : FnC Try.prog 7 := ⟨at_bursarlaw03_CheckSame⟩
theorem at_bursarlaw07_SuperPlans : FnAt Try.prog 8 := ⟨_, _, Try.func8, rfl, by simp [Try.f8]⟩
instance fnc_8 : FnC Try.prog 8 := ⟨at_bursarlaw07_SuperPlans⟩
theorem at_bursarlaw07_SuperApart : FnAt Try.prog 9 := ⟨_, _, Try.func9, rfl, by simp [Try.f9]⟩
instance fnc_9 : FnC Try.prog 9 := ⟨at_bursarlaw07_SuperApart⟩
theorem at_bursarlaw07_SuperCodes : FnAt Try.prog 10 := ⟨_, _, Try.func10, rfl, by simp [Try.f10]⟩
instance fnc_10 : FnC Try.prog 10 := ⟨at_bursarlaw07_SuperCodes⟩
theorem at_bursarlaw07_SuperFinds : FnAt Try.prog 11 := ⟨_, _, Try.func11, rfl, by simp [Try.f11]⟩
instance fnc_11 : FnC Try.prog 11 := ⟨at_bursarlaw07_SuperFinds⟩
theorem at_bursarlaw07_SuperChooses : FnAt Try.prog 12 := ⟨_, _, Try.func12, rfl, by simp [Try.f12]⟩
instance fnc_12 : FnC Try.prog 12 := ⟨at_bursarlaw07_SuperChooses⟩
theorem at_bursarlaw07_SuperLater : FnAt Try.prog 13 := ⟨_, _, Try.func13, rfl, by simp [Try.f13]⟩
instance fnc_13 : FnC Try.prog 13 := ⟨at_bursarlaw07_SuperLater⟩
theorem at_bursarlaw03_few : FnAt Try.prog 14 := ⟨_, _, Try.func14, rfl, by simp [Try.f14]⟩
instance fnc_14 : FnC Try.prog 14 := ⟨at_bursarlaw03_few⟩
theorem at_check_Sum : FnAt Try.prog 15 := ⟨_, _, Try.func15, rfl, by simp [Try.f15]⟩
instance fnc_15 : FnC Try.prog 15 := ⟨at_check_Sum⟩
theorem at_bursarref03_Sum : FnAt Try.prog 16 := ⟨_, _, Try.func16, rfl, by simp [Try.f16]⟩
instance fnc_16 : FnC Try.prog 16 := ⟨at_bursarref03_Sum⟩
theorem at_bursarlaw03_awake : FnAt Try.prog 17 := ⟨_, _, Try.func17, rfl, by simp [Try.f17]⟩
instance fnc_17 : FnC Try.prog 17 := ⟨at_bursarlaw03_awake⟩
theorem at_check_Seal : FnAt Try.prog 18 := ⟨_, _, Try.func18, rfl, by simp [Try.f18]⟩
instance fnc_18 : FnC Try.prog 18 := ⟨at_check_Seal⟩
theorem at_check_Open : FnAt Try.prog 19 := ⟨_, _, Try.func19, rfl, by simp [Try.f19]⟩
instance fnc_19 : FnC Try.prog 19 := ⟨at_check_Open⟩
theorem at_bursarref03_Open : FnAt Try.prog 20 := ⟨_, _, Try.func20, rfl, by simp [Try.f20]⟩
instance fnc_20 : FnC Try.prog 20 := ⟨at_bursarref03_Open⟩
theorem at_bursarref03_Seal : FnAt Try.prog 21 := ⟨_, _, Try.func21, rfl, by simp [Try.f21]⟩
instance fnc_21 : FnC Try.prog 21 := ⟨at_bursarref03_Seal⟩
theorem at_super_Log : FnAt Try.prog 22 := ⟨_, _, Try.func22, rfl, by simp [Try.f22]⟩
instance fnc_22 : FnC Try.prog 22 := ⟨at_super_Log⟩
theorem at_super_Page : FnAt Try.prog 23 := ⟨_, _, Try.func23, rfl, by simp [Try.f23]⟩
instance fnc_23 : FnC Try.prog 23 := ⟨at_super_Page⟩
theorem at_super_Fits : FnAt Try.prog 24 := ⟨_, _, Try.func24, rfl, by simp [Try.f24]⟩
instance fnc_24 : FnC Try.prog 24 := ⟨at_super_Fits⟩
theorem at_bursarref07_Fits : FnAt Try.prog 25 := ⟨_, _, Try.func25, rfl, by simp [Try.f25]⟩
instance fnc_25 : FnC Try.prog 25 := ⟨at_bursarref07_Fits⟩
theorem at_super_Size : FnAt Try.prog 26 := ⟨_, _, Try.func26, rfl, by simp [Try.f26]⟩
instance fnc_26 : FnC Try.prog 26 := ⟨at_super_Size⟩
theorem at_bursarlaw07_awake : FnAt Try.prog 27 := ⟨_, _, Try.func27, rfl, by simp [Try.f27]⟩
instance fnc_27 : FnC Try.prog 27 := ⟨at_bursarlaw07_awake⟩
theorem at_bursarref07_Log : FnAt Try.prog 28 := ⟨_, _, Try.func28, rfl, by simp [Try.f28]⟩
instance fnc_28 : FnC Try.prog 28 := ⟨at_bursarref07_Log⟩
theorem at_bursarlaw07_few : FnAt Try.prog 29 := ⟨_, _, Try.func29, rfl, by simp [Try.f29]⟩
instance fnc_29 : FnC Try.prog 29 := ⟨at_bursarlaw07_few⟩
theorem at_super_Decode : FnAt Try.prog 30 := ⟨_, _, Try.func30, rfl, by simp [Try.f30]⟩
instance fnc_30 : FnC Try.prog 30 := ⟨at_super_Decode⟩
theorem at_bursarref07_Decode : FnAt Try.prog 31 := ⟨_, _, Try.func31, rfl, by simp [Try.f31]⟩
instance fnc_31 : FnC Try.prog 31 := ⟨at_bursarref07_Decode⟩
theorem at_super_May : FnAt Try.prog 32 := ⟨_, _, Try.func32, rfl, by simp [Try.f32]⟩
instance fnc_32 : FnC Try.prog 32 := ⟨at_super_May⟩
theorem at_bursarref07_May : FnAt Try.prog 33 := ⟨_, _, Try.func33, rfl, by simp [Try.f33]⟩
instance fnc_33 : FnC Try.prog 33 := ⟨at_bursarref07_May⟩
theorem at_super_Encode : FnAt Try.prog 34 := ⟨_, _, Try.func34, rfl, by simp [Try.f34]⟩
instance fnc_34 : FnC Try.prog 34 := ⟨at_super_Encode⟩
theorem at_bursarref07_Encode : FnAt Try.prog 35 := ⟨_, _, Try.func35, rfl, by simp [Try.f35]⟩
instance fnc_35 : FnC Try.prog 35 := ⟨at_bursarref07_Encode⟩
theorem at_super_Choose : FnAt Try.prog 36 := ⟨_, _, Try.func36, rfl, by simp [Try.f36]⟩
instance fnc_36 : FnC Try.prog 36 := ⟨at_super_Choose⟩
theorem at_bursarref07_Choose : FnAt Try.prog 37 := ⟨_, _, Try.func37, rfl, by simp [Try.f37]⟩
instance fnc_37 : FnC Try.prog 37 := ⟨at_bursarref07_Choose⟩
theorem at_check_words : FnAt Try.prog 38 := ⟨_, _, Try.func38, rfl, by simp [Try.f38]⟩
instance fnc_38 : FnC Try.prog 38 := ⟨at_check_words⟩
theorem at_check_octets : FnAt Try.prog 39 := ⟨_, _, Try.func39, rfl, by simp [Try.f39]⟩
instance fnc_39 : FnC Try.prog 39 := ⟨at_check_octets⟩
theorem at_slices_Clone_s_byte_byte : FnAt Try.prog 40 := ⟨_, _, Try.func40, rfl, by simp [Try.f40]⟩
instance fnc_40 : FnC Try.prog 40 := ⟨at_slices_Clone_s_byte_byte⟩
theorem at_super_in : FnAt Try.prog 41 := ⟨_, _, Try.func41, rfl, by simp [Try.f41]⟩
instance fnc_41 : FnC Try.prog 41 := ⟨at_super_in⟩
theorem at_super_half : FnAt Try.prog 42 := ⟨_, _, Try.func42, rfl, by simp [Try.f42]⟩
instance fnc_42 : FnC Try.prog 42 := ⟨at_super_half⟩
theorem at_super_number : FnAt Try.prog 43 := ⟨_, _, Try.func43, rfl, by simp [Try.f43]⟩
instance fnc_43 : FnC Try.prog 43 := ⟨at_super_number⟩
theorem at_bursarref05_Number : FnAt Try.prog 44 := ⟨_, _, Try.func44, rfl, by simp [Try.f44]⟩
instance fnc_44 : FnC Try.prog 44 := ⟨at_bursarref05_Number⟩
theorem at_super_lay : FnAt Try.prog 45 := ⟨_, _, Try.func45, rfl, by simp [Try.f45]⟩
instance fnc_45 : FnC Try.prog 45 := ⟨at_super_lay⟩
theorem at_bursarref05_Wide : FnAt Try.prog 46 := ⟨_, _, Try.func46, rfl, by simp [Try.f46]⟩
instance fnc_46 : FnC Try.prog 46 := ⟨at_bursarref05_Wide⟩
end Go.Proofs.Ytloeeiamgaljoaa
