/- The lemmas by which a run is followed, as one set. -/
import Derived.Test.YtloeeiamgaljoaaVSeed
import Derived.Test.YtloeeiamgaljoaaVNum
namespace Go.Val
open Go.RowKit
attribute [go_sem] Solid_rowK Option.isSome_some convR makeQ appQ appCall srcD runL allocOf storeOf runQ putS onD litG guardD storeD stepA newD cmpD eqD
attribute [go_sem] eqAllD eqTop Ty.plain groupsD List.range_succ_eq_map List.range_zero stepQ callD Val.get gets binD intD
attribute [go_sem] strD unD convD fieldOff fieldD fieldAddrD indexD indexAddrD loadD partD TI.isAgg boundD
attribute [go_sem] boundOk sliceD lenD arrayPtrD buildD fillD nilD mmD DV.shift calleeD List.tail_cons List.headD_cons
attribute [go_sem] List.set_cons_succ List.set_cons_zero List.getD_cons_succ List.getD_cons_zero List.getElem?_cons_succ List.getElem?_cons_zero Option.map_some Option.map_none List.map_cons List.map_nil List.append_nil List.cons_append
attribute [go_sem] List.nil_append List.append_assoc app_len app_get app_get0 app_set app_set0 List.length_cons List.length_nil Array.toList_replicate List.map_replicate ofVal
attribute [go_sem] ofVal0 cells_int cells_bool cells_str cells_agg cells_sl cells_slt cells_row cells_ptr cells_cp cells_nilp cells_mp
attribute [go_sem] cells_fn List.size_toArray Nat.zero_add Nat.reduceAdd Nat.reduceMul Nat.reduceLT Nat.reduceLeDiff Int.reduceLE Int.reduceLT Ty.slice.injEq Ty.ptr.injEq exists_eq_left'
attribute [go_sem] exists_eq bytes_all unbytes_nil unbytes_cons isByte_cons isByte_nil unbytes_bytes ofVal_str0 decide_true decide_false eq_self true_and
attribute [go_sem] and_true ne_eq reduceCtorEq not_false_eq_true Bool.not_true Bool.not_false beq_self_eq_true Bool.true_beq Bool.false_beq Bool.false_eq_true if_true if_false
attribute [go_sem] ite_true ite_false Int.cast_ofNat_Int Int.toNat_natCast Int.toNat_zero Int.natCast_nonneg IntKind.bits Int.reduceToNat Nat.min_def Solid_row0 Solid_int Solid_bool
attribute [go_sem] Solid_str Solid_agg Solid_tup Solid_sl Solid_slt Solid_cp Solid_ptr Solid_nilp Cell1_int Cell1_bool Cell1_str Cell1_sl
attribute [go_sem] Cell1_slt Cell1_cp Cell1_ptr Cell1_nilp FlatD_int FlatD_bool FlatD_str FlatD_sl FlatD_slt FlatD_ptr FlatD_agg all_nil
attribute [go_sem] all_cons ex_agg rep_1 rep_2 rep_3 rep_4 rep_5 rep_6 rep_8 rep_9 List.replicate_zero flat_nil
attribute [go_sem] flat_cons flat_bytes_of Value.cells bytes_len List.length_map over_zero_nil over_zero_cons over_cons_succ List.take_succ_cons List.take_zero List.take_nil List.drop_succ_cons
attribute [go_sem] List.drop_zero List.drop_nil Nat.zero_mul Nat.one_mul Nat.mul_one Nat.add_zero
attribute [go_sem] Cell1_row FlatD_row Solid_mp Cell1_mp FlatD_mp Solid_it Cell1_it FlatD_it Solid_cm Cell1_cm FlatD_cm Solid_fn Cell1_fn FlatD_fn Solid_nilfn Cell1_nilfn FlatD_nilfn cells_it cells_cm isIter cells_nilfn
end Go.Val
