/- Texts' octets as a row of one's own; a loop's first round. -/
import Derived.Test.YtloeeiamgaljoaaVBe
namespace Go.Val
open Go.RowKit
set_option linter.unusedSimpArgs false
set_option linter.unusedVariables false
section
variable {P : Program} {T : TypeId → TI} {dsts : List (Option Tmp)} {rest : List Oper} {slots slots' : List DV} {σ σ' : Store} {Q : Exit → St → Prop}
theorem bytes_unbytes {xs : List DV} (h : xs.all DV.isByte = true) : bytes (unbytes xs) = xs := by
  induction xs with
  | nil => rfl
  | cons x xs ih =>
    rw [List.all_cons, Bool.and_eq_true] at h
    have h1 := ih h.2
    simp only [bytes, unbytes, List.map_cons] at h1 ⊢
    rw [h1]
    congr 1
    have h2 := h.1
    unfold DV.isByte at h2
    split at h2
    · rename_i n
      have := of_decide_eq_true h2
      simp only [DV.byte, DV.int.injEq, true_and, UInt8.toNat_ofNat']
      omega
    · cases h2
/-- '[]byte("abc")': a row of its own. -/
theorem W_lit (hT : TOK P T) {t1 t2 : Tmp} {t e : TypeId} {len : Nat} {parts : Array (Nat × Operand)} {ty ty2 : TypeId} {pos pos2 : String} {af af2 : Array Edge} {C : Prop} {xs : List DV} {bs : List UInt8} {st : Nat}
    (k : EvD P dsts rest slots' σ' Q) (hc : C)
    (h : newD T σ slots (.buildSlice t len parts) = some (C, .slt xs) := by simp (disch := omega) only [go_sem]; with_reducible exact rfl)
    (hs : (slots.set t1 .undef).set t2 (.row σ.rows.length xs.length) = slots' := by simp only [List.set_cons_succ, List.set_cons_zero, List.length_cons, List.length_nil, Nat.zero_add, Nat.reduceAdd]; exact rfl)
    (ht : (T t).ty = .slice e := by rfl) (he : (T e).ty = .int .u8 := by rfl)
    (hall : xs.all DV.isByte = true := by rfl) (hbs : unbytes xs = bs := by simp only [unbytes, List.map_cons, List.map_nil, DV.byte, Int.reduceToNat, UInt8.reduceOfNat]; exact rfl)
    (hst : (T e).size = st := by simp only [go_sem]; exact rfl)
    (hσ : (⟨σ.rows ++ [some ⟨bytes bs, e, st⟩], σ.boxes, σ.maps⟩ : Store) = σ' := by (try simp only [List.append_assoc, List.cons_append, List.nil_append]) <;> exact rfl)
    (h1' : Nat.ble (t1 + 1) slots.length = true := by rfl) :
    EvD P dsts (⟨some t1, .buildSlice t len parts, ty, pos, af, none⟩ :: ⟨some t2, .convert t t (.tmp t1), ty2, pos2, af2, none⟩ :: rest) slots σ Q := by
  have h1 : t1 < slots.length := Nat.le_of_ble_eq_true h1'
  subst hs; subst hσ; subst hst; subst hbs
  rw [bytes_unbytes hall] at k
  intro ops ho w0 G0 σ0 W0 G a w hx hr
  unfold newD at h
  simp only [ht] at h
  split at h
  · rename_i C' cs hf
    simp only [Option.some.injEq, Prod.mk.injEq, DV.slt.injEq] at h
    obtain ⟨rfl, hxs⟩ := h
    obtain ⟨hne, hsz, hs0, hzc, hfl, hst, hc⟩ := hc
    rw [hxs] at hfl hst
    have hxl : xs.length = len := by rw [← hxs]; simp [groupsD]
    obtain ⟨rs, hrs, hrel⟩ := build_run hT ht hr hf hne hsz hzc hc
    have hta : t1 < a.tmps.size := by
      have h2 := hr.2.1.1
      simp only [Array.length_toList] at h2
      rw [h2]
      exact h1
    rw [wpList, if_pos (by rfl)]
    refine .inl ?_
    have r1 : (execOp a.eval ⟨some t1, .buildSlice t len parts, ty, pos, af, none⟩).run P w = .ok (.value (.slice (some ⟨w.heap.size, 0, none⟩) len len)) (w.alloc (.cells rs e)) := by
      simp only [execOp, Sem.run_bind, hrs, Result.andThen_ok]
      rfl
    simp only [Oper.wp, r1, Oper.upon]
    rw [wpList, if_pos (by rfl)]
    refine .inl ?_
    have ev : (a.put (some t1) (.slice (some ⟨w.heap.size, 0, none⟩) len len)).eval (.tmp t1) = .slice (some ⟨w.heap.size, 0, none⟩) len len := by
      simp [Act.put, Act.eval, hta]
    have r2 : (execOp (a.put (some t1) (.slice (some ⟨w.heap.size, 0, none⟩) len len)).eval ⟨some t2, .convert t t (.tmp t1), ty2, pos2, af2, none⟩).run P (w.alloc (.cells rs e)) = .ok (.value (.slice (some ⟨w.heap.size, 0, none⟩) len len)) (w.alloc (.cells rs e (rs.size, rs.size + 1))) := by
      simp only [execOp, ev, Sem.run_bind, Go.Lib.run_convert_bytes_const w t e rs len len (TOK.undP_slice hT ht) (TOK.undP_int hT he), Result.andThen_ok]
      rfl
    simp only [Oper.wp, r2, Oper.upon]
    have hcs : cs.length = len * (T e).size := by
      rw [← hfl, flat_len hst, hxl]
    have hrz : rs.size = cs.length := by have := hrel.1; simpa using this
    obtain ⟨G', k1, k2, k3⟩ := hr.2.2.row (xs := xs) (e := e) (st := (T e).size) (c := len) (arr := rs) (fr := (rs.size, rs.size + 1)) hs0 hst (by omega) (by rw [hrz, hcs])
      (fun i d v hd hv => by rw [hfl] at hd; exact hrel.2 i d v hd (by rw [Array.getElem?_toList]; exact hv)) rfl (fun k hk h => by have := h.1; simp only at this; omega)
    refine k ops ho w0 G0 σ0 W0 G' _ _ (hx.trans k2) ⟨by simp only [put_defers]; exact hr.1, ?_, k1⟩
    have hv : RelV G' { σ with rows := σ.rows ++ [some ⟨xs, e, (T e).size⟩] } (w.alloc (.cells rs e (rs.size, rs.size + 1))) (.row σ.rows.length xs.length) (.slice (some ⟨w.heap.size, 0, none⟩) len len) := by
      refine .row _ _ _ (by simp) (fun R hR => by simp at hR; subst hR; exact Nat.le_refl _) (fun R hR _ => by rw [k3, hxl])
    exact RelL_put (RelL_put (hr.2.1.ext k2) (.undef _) (some t1)) hv (some t2)
  · simp at h

end
end Go.Val
