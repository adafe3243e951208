/- Structs, arrays and pointers compared. -/
import Derived.Test.YtloeeiamgaljoaaVNew
namespace Go.Val
open Go.RowKit
set_option linter.unusedSimpArgs false
set_option linter.unusedVariables false

def eqAllD (T : TypeId → TI) (f : TypeId → DV → DV → Option (Prop × Bool)) : List (TypeId × Nat) → List DV → List DV → Option (Prop × Bool)
  | [], _, _ => some (True, true)
  | (e, off) :: l, cs, ds =>
    match partD T e cs off, partD T e ds off with
    | some (C1, x), some (C2, y) =>
      match f e x y, eqAllD T f l cs ds with
      | some (C3, b), some (C4, b') => some (C1 ∧ C2 ∧ C3 ∧ C4, b && b')
      | _, _ => none
    | _, _ => none
def eqD (T : TypeId → TI) : Nat → TypeId → DV → DV → Option (Prop × Bool)
  | 0, _, _, _ => none
  | d + 1, t, x, y =>
    match (T t).ty, x, y with
    | .int _, .int k a, .int k' b => some (k = k', decide (a = b))
    | .bool, .bool a, .bool b => some (True, a == b)
    | .str, .str a, .str b => some (True, decide (a = b))
    | .array n e, .agg cs, .agg ds =>
      match eqAllD T (eqD T d) ((List.range n).map fun i => (e, i * (T e).size)) cs ds with
      | some (C, b) => some ((T e).ty ≠ .other ∧ C, b)
      | none => none
    | .struct fs, .agg cs, .agg ds =>
      match eqAllD T (eqD T d) fs cs ds with
      | some (C, b) => some ((T t).eqok = true ∧ C, b)
      | none => none
    | _, _, _ => none
def Ty.plain : Ty → Bool
  | .int _ | .bool | .str => true
  | _ => false
def eqTop (T : TypeId → TI) (t : TypeId) : Prop :=
  match (T t).ty with
  | .struct _ => (T t).eqok = true
  | .array _ e => (T e).ty.plain = true
  | _ => False

def cmpD (T : TypeId → TI) (slots : List DV) (op : Op) : Option (Prop × DV) :=
  match op with
  | .binOp .eql t x y _ =>
    match get slots x, get slots y with
    | .agg cs, .agg ds =>
      match eqD T 100 t (.agg cs) (.agg ds) with
      | some (C, b) => some (eqTop T t ∧ C, .bool b)
      | none => none
    | .nilp, .nilp => some (∃ e, (T t).ty = .ptr e, .bool true)
    | .ptr _ _, .nilp => some (∃ e, (T t).ty = .ptr e, .bool false)
    | .cp _, .nilp => some (∃ e, (T t).ty = .ptr e, .bool false)
    | _, _ => none
  | .binOp .neq t x y _ =>
    match get slots x, get slots y with
    | .agg cs, .agg ds =>
      match eqD T 100 t (.agg cs) (.agg ds) with
      | some (C, b) => some (eqTop T t ∧ C, .bool (!b))
      | none => none
    | .nilp, .nilp => some (∃ e, (T t).ty = .ptr e, .bool false)
    | .ptr _ _, .nilp => some (∃ e, (T t).ty = .ptr e, .bool true)
    | .cp _, .nilp => some (∃ e, (T t).ty = .ptr e, .bool true)
    | _, _ => none
  | _ => none

section
variable {P : Program} {T : TypeId → TI} {G : Gh} {σ : Store} (w : World)

theorem eqD_sound (hT : TOK P T) : ∀ (d : Nat) (t : TypeId) (x y : DV) (vx vy : Value) (C : Prop) (b : Bool), eqD T d t x y = some (C, b) → C → RelV G σ w x vx → RelV G σ w y vy → ∀ D, d ≤ D → (Op.equalIn D t vx vy).run P w = .ok b w := by
  intro d
  induction d with
  | zero => intro t x y vx vy C b h; simp [eqD] at h
  | succ d ih =>
    intro t x y vx vy C b h hc hx hy D hD
    obtain ⟨D, rfl⟩ : ∃ k, D = k + 1 := ⟨D - 1, by omega⟩
    have flds : ∀ (gs : List Field) (cs ds : List DV) (us vs : List Value) (C : Prop) (b : Bool), (∀ f ∈ gs, f.name ≠ "_") → eqAllD T (eqD T d) (gs.map fun f => (f.type, f.offset)) cs ds = some (C, b) → C → RelL G σ w cs us → RelL G σ w ds vs →
        (Op.eqFields D us.toArray vs.toArray gs).run P w = .ok b w := by
      intro gs
      induction gs with
      | nil => intro cs ds us vs C b _ h _ _ _; simp only [List.map_nil, eqAllD, Option.some.injEq, Prod.mk.injEq] at h; rw [← h.2]; simp [Op.eqFields]
      | cons q l ihl =>
        intro cs ds us vs C b hn h hc hu hv
        simp only [List.map_cons] at h
        unfold eqAllD at h
        split at h
        · rename_i C1 x C2 y h1 h2
          split at h
          · rename_i C3 r C4 r' h3 h4
            simp only [Option.some.injEq, Prod.mk.injEq] at h
            obtain ⟨rfl, rfl⟩ := h
            obtain ⟨c1, c2, c3, c4⟩ := hc
            obtain ⟨u, p1, r1⟩ := part_sound w hT hu h1 c1
            obtain ⟨v, p2, r2⟩ := part_sound w hT hv h2 c2
            have p3 := ih _ _ _ _ _ _ _ h3 c3 r1 r2 D (by omega)
            have p4 := ihl cs ds us vs C4 r' (fun f hf => hn f (by simp [hf])) h4 c4 hu hv
            rw [Op.eqFields, if_pos (hn q (by simp))]
            simp only [Sem.run_bind, p1, p2, p3, Result.andThen_ok, Sem.run_ite]
            cases r
            · simp
            · simp [p4]
          · simp at h
        · simp at h
    unfold eqD at h
    split at h
    · rename_i k0 k a k' b0 ht
      simp only [Option.some.injEq, Prod.mk.injEq] at h
      obtain ⟨rfl, rfl⟩ := h
      cases hx; cases hy
      subst hc
      rw [run_equalIn_int w D t k k0 a b0 (TOK.undP_int hT ht)]
      rfl
    · rename_i a b0 ht
      simp only [Option.some.injEq, Prod.mk.injEq] at h
      obtain ⟨rfl, rfl⟩ := h
      cases hx; cases hy
      exact run_equalIn_bool' w D t a b0 (TOK.undP_bool hT ht)
    · rename_i a b0 ht
      simp only [Option.some.injEq, Prod.mk.injEq] at h
      obtain ⟨rfl, rfl⟩ := h
      cases hx; cases hy
      rw [run_equalIn_string w D t _ _ (TOK.undP_str hT ht), ByteArray.toList_mk, ByteArray.toList_mk]
      congr 1
      by_cases e : a = b0
      · simp [e]
      · simp [e]
    · rename_i n e cs ds ht
      split at h
      · rename_i C' b' ha
        simp only [Option.some.injEq, Prod.mk.injEq] at h
        obtain ⟨rfl, rfl⟩ := h
        cases hx with
        | agg _ us hl1 hr1 =>
          cases hy with
          | agg _ vs hl2 hr2 =>
            obtain ⟨hne, hc⟩ := hc
            rw [List.range_eq_range'] at ha
            rw [Op.equalIn]
            simp only [Sem.run_bind, TOK.und_array hT w ht, Result.andThen_ok, TOK.size hT w hne]
            simp only [Std.Legacy.Range.forIn_eq_forIn_range', Std.Legacy.Range.size, Nat.sub_zero, Nat.add_one_sub_one, Nat.div_one]
            generalize List.range' 0 n = is at ha
            clear ht
            induction is generalizing C' b' with
            | nil =>
              simp only [List.map_nil, eqAllD, Option.some.injEq, Prod.mk.injEq] at ha
              rw [← ha.2]
              simp
            | cons q l ihl =>
              simp only [List.map_cons] at ha
              unfold eqAllD at ha
              split at ha
              · rename_i C1 x C2 y h1 h2
                split at ha
                · rename_i C3 r C4 r' h3 h4
                  simp only [Option.some.injEq, Prod.mk.injEq] at ha
                  obtain ⟨rfl, rfl⟩ := ha
                  obtain ⟨c1, c2, c3, c4⟩ := hc
                  obtain ⟨u, p1, r1⟩ := part_sound w hT ⟨hl1, hr1⟩ h1 c1
                  obtain ⟨v, p2, r2⟩ := part_sound w hT ⟨hl2, hr2⟩ h2 c2
                  have p3 := ih _ _ _ _ _ _ _ h3 c3 r1 r2 D (by omega)
                  have p4 := ihl C4 r' c4 h4
                  simp only [List.forIn_cons, Sem.run_bind, p1, p2, p3, Result.andThen_ok, Sem.run_ite]
                  cases r
                  · simp
                  · simp only [Bool.not_true, Bool.false_eq_true, if_false, Sem.run_pure, Result.andThen_ok, Bool.true_and]
                    exact p4
                · simp at ha
              · simp at ha
      · simp at h
    · rename_i fs cs ds ht
      split at h
      · rename_i C' b' ha
        simp only [Option.some.injEq, Prod.mk.injEq] at h
        obtain ⟨rfl, rfl⟩ := h
        cases hx with
        | agg _ us hl1 hr1 =>
          cases hy with
          | agg _ vs hl2 hr2 =>
            obtain ⟨i, dd, _, hu, hr, _, _, _, he⟩ := hT t ⟨_, rfl, by rw [ht]; simp⟩
            obtain ⟨s1, s2, gs, s3, s4⟩ := he hc.1
            rw [hu] at s3
            injection s3 with s3
            subst s3
            rw [ht] at hr
            obtain ⟨gs', hg', hfs⟩ := hr
            injection hg' with hg'
            subst hg'
            have hf : P.fieldsOf t = gs := by simp [Program.fieldsOf, hu]
            rw [run_equalIn_struct w D t _ _ (by rw [hf]; exact hu) s1, hf]
            exact flds gs.toList cs ds us vs C' b' s4 (by rw [hfs]; exact ha) hc.2 ⟨hl1, hr1⟩ ⟨hl2, hr2⟩
      · simp at h
    · simp at h

theorem eqTop_guard (hT : TOK P T) {t : TypeId} (h : eqTop T t) : P.eqGuardType P.depth t = false := by
  unfold eqTop at h
  split at h
  · rename_i fs ht
    obtain ⟨i, dd, _, hu, hr, _, _, _, he⟩ := hT t ⟨_, rfl, by rw [ht]; simp⟩
    exact (he h).2.1
  · rename_i n e ht
    obtain ⟨dd, hu, hr⟩ := TOK.undP hT ht (by simp)
    simp only [TyRel] at hr
    subst hr
    obtain ⟨k, hk⟩ : ∃ k, P.depth = k + 1 + 1 := ⟨2 * (P.types.size + Made.depth), rfl⟩
    rw [hk]
    unfold Program.eqGuardType
    rw [hu]
    simp only
    unfold Program.eqGuardType
    cases he : (T e).ty with
    | int k => rw [TOK.undP_int hT he]
    | bool => rw [TOK.undP_bool hT he]
    | str => rw [TOK.undP_str hT he]
    | _ => rw [he] at h; simp [Ty.plain] at h
  · exact h.elim

theorem run_eql_agg (t : TypeId) (xs ys : Array Value) {b : Bool} (h : (Op.equalIn 10000 t (.agg xs) (.agg ys)).run P w = .ok b w) : (binOp .eql t (.agg xs) (.agg ys)).run P w = .ok (.bool b) w := by
  rw [run_eql_struct, h]; rfl
theorem run_neq_agg (t : TypeId) (xs ys : Array Value) {b : Bool} (h : (Op.equalIn 10000 t (.agg xs) (.agg ys)).run P w = .ok b w) : (binOp .neq t (.agg xs) (.agg ys)).run P w = .ok (.bool (!b)) w := by
  rw [run_neq_struct, h]; rfl

theorem run_equalIn_ptr (d : Nat) (t e : TypeId) (a : Option Addr) (h : P.underlying t = some (.pointer e)) : (Op.equalIn (d + 1) t (.pointer a) (.pointer none)).run P w = .ok a.isNone w := by
  cases a <;> simp [Op.equalIn, run_underlying h]
theorem run_equalIn_nils (d : Nat) (t e : TypeId) (a : Option Addr) (n c : Nat) (h : P.underlying t = some (.slice e)) : (Op.equalIn (d + 1) t (.slice a n c) (.slice none 0 0)).run P w = .ok a.isNone w := by
  cases a <;> simp [Op.equalIn, run_underlying h]
theorem run_eql_ptr (t e : TypeId) (a : Option Addr) (h : P.underlying t = some (.pointer e)) : (binOp .eql t (.pointer a) (.pointer none)).run P w = .ok (.bool a.isNone) w := by
  simp only [binOp]
  simp [Op.equal, Op.maxDepth, run_equalIn_ptr w 9999 t e a h]
theorem run_neq_ptr (t e : TypeId) (a : Option Addr) (h : P.underlying t = some (.pointer e)) : (binOp .neq t (.pointer a) (.pointer none)).run P w = .ok (.bool (!a.isNone)) w := by
  simp only [binOp]
  simp [Op.equal, Op.maxDepth, run_equalIn_ptr w 9999 t e a h]
theorem run_eql_nils (t e : TypeId) (a : Option Addr) (n c : Nat) (h : P.underlying t = some (.slice e)) : (binOp .eql t (.slice a n c) (.slice none 0 0)).run P w = .ok (.bool a.isNone) w := by
  simp only [binOp]
  simp [Op.equal, Op.maxDepth, run_equalIn_nils w 9999 t e a n c h]
theorem guard_ptr (op : BinOp) (t : TypeId) (x y : Operand) (a b : Option Addr) : (eqGuard op t x y (.pointer a) (.pointer b)).run P w = .ok () w := by cases op <;> rfl
theorem guard_sl (op : BinOp) (t : TypeId) (x y : Operand) (a b : Option Addr) (n c m k : Nat) : (eqGuard op t x y (.slice a n c) (.slice b m k)).run P w = .ok () w := by cases op <;> rfl

theorem Quiet.cmp (hT : TOK P T) {σ : Store} {slots : List DV} {o : Oper} {C : Prop} {d : DV} (h : cmpD T slots o.op = some (C, d)) (hc : C) : Quiet P σ slots o d := by
  intro w0 G a w K Qr hr hK
  have fin : ∀ v, (execOp a.eval o).run P w = .ok (.value v) w → RelV G σ w d v → o.wp P a w K Qr := by
    intro v hv hd
    simp only [Oper.wp, hv, Oper.upon]
    exact hK v G w hr.2.2 (Ext.refl _ _ _) hd
  have ptr : ∀ {t e : TypeId}, (T t).ty = .ptr e → P.underlying t = some (.pointer e) := by
    intro t e ht
    obtain ⟨dd, hu, hr⟩ := TOK.undP hT ht (by simp)
    simp only [TyRel] at hr
    rw [hu, hr]
  unfold cmpD at h
  split at h
  · rename_i t x y t2 ho
    have hxv := get_rel w hr.2.1 x
    have hyv := get_rel w hr.2.1 y
    split at h
    · rename_i cs ds hx hy
      split at h
      · rename_i C' b he
        simp only [Option.some.injEq, Prod.mk.injEq] at h; obtain ⟨rfl, rfl⟩ := h
        rw [hx] at hxv; rw [hy] at hyv
        have hq := eqD_sound w hT _ _ _ _ _ _ _ _ he hc.2 hxv hyv 10000 (by omega)
        generalize hxe : a.eval x = vx at hxv hq
        generalize hye : a.eval y = vy at hyv hq
        cases hxv; cases hyv
        refine fin _ ?_ (.bool b)
        simp only [execOp, ho, hxe, hye, Sem.run_bind, run_eqGuard_agg w _ t x y _ _ (eqTop_guard hT hc.1), Result.andThen_ok, run_eql_agg w t _ _ hq]
        rfl
      · simp at h
    all_goals first
      | (simp at h; done)
      | (rename_i hx hy
         simp only [Option.some.injEq, Prod.mk.injEq] at h; obtain ⟨rfl, rfl⟩ := h
         obtain ⟨e, ht⟩ := hc
         rw [hx] at hxv; rw [hy] at hyv
         generalize hxe : a.eval x = vx at hxv
         generalize hye : a.eval y = vy at hyv
         cases hxv; cases hyv
         refine fin _ ?_ (.bool _)
         simp only [execOp, ho, hxe, hye, Sem.run_bind, guard_ptr, Result.andThen_ok, run_eql_ptr w t e _ (ptr ht)]
         rfl)
  · rename_i t x y t2 ho
    have hxv := get_rel w hr.2.1 x
    have hyv := get_rel w hr.2.1 y
    split at h
    · rename_i cs ds hx hy
      split at h
      · rename_i C' b he
        simp only [Option.some.injEq, Prod.mk.injEq] at h; obtain ⟨rfl, rfl⟩ := h
        rw [hx] at hxv; rw [hy] at hyv
        have hq := eqD_sound w hT _ _ _ _ _ _ _ _ he hc.2 hxv hyv 10000 (by omega)
        generalize hxe : a.eval x = vx at hxv hq
        generalize hye : a.eval y = vy at hyv hq
        cases hxv; cases hyv
        refine fin _ ?_ (.bool _)
        simp only [execOp, ho, hxe, hye, Sem.run_bind, run_eqGuard_agg w _ t x y _ _ (eqTop_guard hT hc.1), Result.andThen_ok, run_neq_agg w t _ _ hq]
        rfl
      · simp at h
    all_goals first
      | (simp at h; done)
      | (rename_i hx hy
         simp only [Option.some.injEq, Prod.mk.injEq] at h; obtain ⟨rfl, rfl⟩ := h
         obtain ⟨e, ht⟩ := hc
         rw [hx] at hxv; rw [hy] at hyv
         generalize hxe : a.eval x = vx at hxv
         generalize hye : a.eval y = vy at hyv
         cases hxv; cases hyv
         refine fin _ ?_ (.bool _)
         simp only [execOp, ho, hxe, hye, Sem.run_bind, guard_ptr, Result.andThen_ok, run_neq_ptr w t e _ (ptr ht)]
         rfl)
  · simp at h

/-- Whether a slice is nil: that one with elements is not. -/
theorem Effect.isnil (hT : TOK P T) {s : St} {o : Oper} {t t2 e : TypeId} {x y : Operand} {xs : List DV} (ho : o.op = .binOp .eql t x y t2) (hx : get s.slots x = .sl xs ∨ get s.slots x = .slt xs) (hy : y = .const (.slice none 0 0)) (ht : (T t).ty = .slice e) :
    Effect P s o (fun r σ' => (∃ b, r = .bool b ∧ (xs ≠ [] → b = false)) ∧ σ' = s.σ) := by
  intro w0 G a w hr
  have hxv := get_rel w hr.2.1 x
  have hu := TOK.undP_slice hT ht
  obtain ⟨A, n, c, hxe, hA⟩ : ∃ A n c, a.eval x = .slice A n c ∧ (xs ≠ [] → A ≠ none) := by
    rcases hx with hx | hx <;> rw [hx] at hxv <;> generalize hxe : a.eval x = vx at hxv <;> cases hxv <;> rename_i hA _ _ _ <;>
      exact ⟨_, _, _, rfl, fun h => by rcases hA with hA | ⟨hA, _⟩ <;> simp_all⟩
  refine ⟨.value (.bool A.isNone), w, _, .bool A.isNone, s.σ, G, ?_, .inl rfl, ⟨⟨_, rfl, fun h => ?_⟩, rfl⟩, hr.2.2, Ext.refl _ _ _, .bool _⟩
  · have hye : a.eval y = .slice none 0 0 := by rw [hy]; rfl
    simp only [execOp, ho, hxe, hye, Sem.run_bind, guard_sl, Result.andThen_ok, run_eql_nils w t e _ _ _ hu]
    rfl
  · cases A with
    | none => exact absurd rfl (hA h)
    | some _ => rfl
end
end Go.Val
