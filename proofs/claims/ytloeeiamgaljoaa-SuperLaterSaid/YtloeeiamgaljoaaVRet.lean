/- What a function leaves behind: what is its own falls away. -/
import Derived.Test.YtloeeiamgaljoaaVFrz
namespace Go.Val
open Go.RowKit
set_option linter.unusedSimpArgs false
set_option linter.unusedVariables false

mutual
/-- A value that names no more of a store than so many rows, variables and maps. -/
def DV.named (r b m : Nat) : DV → Bool
  | .undef | .int .. | .bool _ | .str _ | .nilp | .nilfn => true
  | .agg cs | .tup cs | .sl cs | .slt cs | .cp cs => nameds r b m cs
  | .fn _ fs cs => nameds r b m fs && nameds r b m cs
  | .row id _ => decide (id < r)
  | .rp id _ _ _ => decide (id < r)
  | .ptr id _ => decide (id < b)
  | .mp id => decide (id < m)
  | .it id => decide (id < m)
  | .cm ks vs => nameds r b m ks && nameds r b m vs
def nameds (r b m : Nat) : List DV → Bool
  | [] => true
  | c :: cs => DV.named r b m c && nameds r b m cs
end

mutual
theorem named_mono {r b m r' b' m' : Nat} (hr : r ≤ r') (hb : b ≤ b') (hm : m ≤ m') : ∀ d : DV, d.named r b m = true → d.named r' b' m' = true
  | .undef, _ => rfl
  | .int .., _ => rfl
  | .bool _, _ => rfl
  | .str _, _ => rfl
  | .nilp, _ => rfl
  | .nilfn, _ => rfl
  | .agg cs, h => by simp only [DV.named] at h ⊢; exact nameds_mono hr hb hm cs h
  | .tup cs, h => by simp only [DV.named] at h ⊢; exact nameds_mono hr hb hm cs h
  | .sl cs, h => by simp only [DV.named] at h ⊢; exact nameds_mono hr hb hm cs h
  | .slt cs, h => by simp only [DV.named] at h ⊢; exact nameds_mono hr hb hm cs h
  | .cp cs, h => by simp only [DV.named] at h ⊢; exact nameds_mono hr hb hm cs h
  | .fn _ fs cs, h => by simp only [DV.named, Bool.and_eq_true] at h ⊢; exact ⟨nameds_mono hr hb hm fs h.1, nameds_mono hr hb hm cs h.2⟩
  | .row .., h => by simp only [DV.named, decide_eq_true_eq] at h ⊢; omega
  | .rp .., h => by simp only [DV.named, decide_eq_true_eq] at h ⊢; omega
  | .ptr .., h => by simp only [DV.named, decide_eq_true_eq] at h ⊢; omega
  | .mp _, h => by simp only [DV.named, decide_eq_true_eq] at h ⊢; omega
  | .it _, h => by simp only [DV.named, decide_eq_true_eq] at h ⊢; omega
  | .cm fs cs, h => by simp only [DV.named, Bool.and_eq_true] at h ⊢; exact ⟨nameds_mono hr hb hm fs h.1, nameds_mono hr hb hm cs h.2⟩
theorem nameds_mono {r b m r' b' m' : Nat} (hr : r ≤ r') (hb : b ≤ b') (hm : m ≤ m') : ∀ ds : List DV, nameds r b m ds = true → nameds r' b' m' ds = true
  | [], _ => rfl
  | d :: ds, h => by simp only [nameds, Bool.and_eq_true] at h ⊢; exact ⟨named_mono hr hb hm d h.1, nameds_mono hr hb hm ds h.2⟩
end

theorem nameds_iff {r b m : Nat} {cs : List DV} : nameds r b m cs = true ↔ ∀ c ∈ cs, c.named r b m = true := by
  induction cs with
  | nil => simp [nameds]
  | cons c cs ih => simp [nameds, ih]
theorem nameds_append {r b m : Nat} {cs ds : List DV} : nameds r b m (cs ++ ds) = (nameds r b m cs && nameds r b m ds) := by
  induction cs with
  | nil => simp [nameds]
  | cons c cs ih => simp [nameds, ih, Bool.and_assoc]

theorem nameds_flat {r b m : Nat} {xs : List DV} : nameds r b m (flat xs) = nameds r b m xs := by
  induction xs with
  | nil => simp [flat]
  | cons x xs ih =>
    simp only [flat, List.flatMap_cons] at *
    rw [nameds_append, ih]
    simp only [nameds]
    congr 1
    cases x <;> simp [DV.cells, nameds, DV.named]

def Store.trunc (σ : Store) (r b m : Nat) : Store := ⟨σ.rows.take r, σ.boxes.take b, σ.maps.take m⟩

section
variable {P : Program} {T : TypeId → TI} {w0 : World} {G : Gh} {σ : Store} {w : World}

theorem RelV.named {d : DV} {v : Value} (h : RelV G σ w d v) : d.named σ.rows.length σ.boxes.length σ.maps.length = true := by
  have lst : ∀ {cs : List DV} {P : DV → Prop}, (∀ (i : Nat) c, cs[i]? = some c → c.named σ.rows.length σ.boxes.length σ.maps.length = true) → nameds σ.rows.length σ.boxes.length σ.maps.length cs = true := by
    intro cs _ h
    rw [nameds_iff]
    intro c hc
    obtain ⟨i, hi⟩ := List.mem_iff_getElem?.1 hc
    exact h i c hi
  have lst2 : ∀ {cs : List DV} {vs : List Value}, vs.length = cs.length → (∀ (i : Nat) c v, cs[i]? = some c → vs[i]? = some v → c.named σ.rows.length σ.boxes.length σ.maps.length = true) → nameds σ.rows.length σ.boxes.length σ.maps.length cs = true := by
    intro cs vs hl h
    refine lst (P := fun _ => True) (fun i c hc => ?_)
    have hi : i < vs.length := by rw [hl]; exact (List.getElem?_eq_some_iff.1 hc).1
    exact h i c _ hc (List.getElem?_eq_getElem hi)
  induction h with
  | undef v => rfl
  | int k n => rfl
  | bool b => rfl
  | str s => rfl
  | agg cs vs hl _ ih => simp only [DV.named]; exact lst2 hl ih
  | tup cs vs hl _ ih => simp only [DV.named]; exact lst2 hl ih
  | sl xs A n c st b o vs hn hc hA hst hm hr ih => simp only [DV.named]; rw [← nameds_flat]; exact lst (P := fun _ => True) ih
  | slt xs A n st b o vs hn hA hst hm hr ih => simp only [DV.named]; rw [← nameds_flat]; exact lst (P := fun _ => True) ih
  | row id len v hid hle h => simpa [DV.named] using hid
  | ptr b off hb => simpa [DV.named] using hb
  | cp cs b o vs him hm hr ih => simp only [DV.named]; exact lst (P := fun _ => True) ih
  | rp id len i off v hid hle h => simpa [DV.named] using hid
  | nilp => rfl
  | fn f fs cs us vs hf _ hl _ ihF ih => simp only [DV.named, Bool.and_eq_true]; exact ⟨lst2 hf ihF, lst2 hl ih⟩
  | nilfn => rfl
  | mp id hid => simpa [DV.named] using hid
  | it id hid => simpa [DV.named] using hid
  | cm ks vs k clock es him hh h1 h2 hk hv hb hn ihk ihv =>
    simp only [DV.named, Bool.and_eq_true]
    refine ⟨lst (P := fun _ => True) (fun i c hc => ?_), lst (P := fun _ => True) (fun i c hc => ?_)⟩
    · have hi : i < es.size := by rw [h1]; exact (List.getElem?_eq_some_iff.1 hc).1
      exact ihk i c _ hc (Array.getElem?_eq_getElem hi)
    · have hi : i < es.size := by rw [h2]; exact (List.getElem?_eq_some_iff.1 hc).1
      exact ihv i c _ hc (Array.getElem?_eq_getElem hi)

theorem RelV.trunc {r b m : Nat} {d : DV} {v : Value} (h : RelV G σ w d v) (hr : r ≤ σ.rows.length) (hb : b ≤ σ.boxes.length) (hm : m ≤ σ.maps.length) (hd : d.named r b m = true) : RelV G (σ.trunc r b m) w d v := by
  have lst : ∀ {cs : List DV}, nameds r b m cs = true → ∀ (i : Nat) c, cs[i]? = some c → c.named r b m = true := by
    intro cs h i c hc
    exact nameds_iff.1 h c (List.mem_of_getElem? hc)
  induction h with
  | undef v => exact .undef v
  | int k n => exact .int k n
  | bool b => exact .bool b
  | str s => exact .str s
  | agg cs vs hl _ ih => simp only [DV.named] at hd; exact .agg cs vs hl (fun i c v hc hv => ih i c v hc hv (lst hd i c hc))
  | tup cs vs hl _ ih => simp only [DV.named] at hd; exact .tup cs vs hl (fun i c v hc hv => ih i c v hc hv (lst hd i c hc))
  | sl xs A n c st b o vs hn hc hA hst hm hr ih => simp only [DV.named] at hd; rw [← nameds_flat] at hd; exact .sl xs A n c st b o vs hn hc hA hst hm (fun i d he => ih i d he (lst hd i d he))
  | slt xs A n st b o vs hn hA hst hm hr ih => simp only [DV.named] at hd; rw [← nameds_flat] at hd; exact .slt xs A n st b o vs hn hA hst hm (fun i d he => ih i d he (lst hd i d he))
  | row id len v hid hle h =>
    simp only [DV.named, decide_eq_true_eq] at hd
    have e : ∀ R, (σ.trunc r b m).rows[id]? = some (some R) → σ.rows[id]? = some (some R) := fun R hR => by
      simp only [Store.trunc, List.getElem?_take] at hR
      rwa [if_pos hd] at hR
    exact .row id len v (by simp [Store.trunc]; omega) (fun R hR => hle R (e R hR)) (fun R hR => h R (e R hR))
  | ptr b' off hb' => simp only [DV.named, decide_eq_true_eq] at hd; exact .ptr b' off (by simp [Store.trunc]; omega)
  | cp cs b o vs him hm hr ih => simp only [DV.named] at hd; exact .cp cs b o vs him hm (fun i d he => ih i d he (lst hd i d he))
  | rp id len i off v hid hle h =>
    simp only [DV.named, decide_eq_true_eq] at hd
    have e : ∀ R, (σ.trunc r b m).rows[id]? = some (some R) → σ.rows[id]? = some (some R) := fun R hR => by
      simp only [Store.trunc, List.getElem?_take] at hR
      rwa [if_pos hd] at hR
    exact .rp id len i off v (by simp [Store.trunc]; omega) (fun R hR => hle R (e R hR)) (fun R hR => h R (e R hR))
  | nilp => exact .nilp
  | fn f fs cs us vs hf _ hl _ ihF ih =>
    simp only [DV.named, Bool.and_eq_true] at hd
    exact .fn f fs cs us vs hf (fun i c v hc hv => ihF i c v hc hv (lst hd.1 i c hc)) hl (fun i c v hc hv => ih i c v hc hv (lst hd.2 i c hc))
  | nilfn => exact .nilfn
  | mp id hid => simp only [DV.named, decide_eq_true_eq] at hd; exact .mp id (by simp [Store.trunc]; omega)
  | it id hid => simp only [DV.named, decide_eq_true_eq] at hd; exact .it id (by simp [Store.trunc]; omega)
  | cm ks vs k clock es him hh h1 h2 hk hv hb hn ihk ihv =>
    simp only [DV.named, Bool.and_eq_true] at hd
    exact .cm ks vs k clock es him hh h1 h2 (fun i d e he hq => ihk i d e he hq (lst hd.1 i d he)) (fun i d e he hq => ihv i d e he hq (lst hd.2 i d he)) hb hn

/-- All that a store holds names no more than so much. -/
structure Named (σ : Store) (r b m : Nat) : Prop where
  rows : ∀ (id : Nat) R, σ.rows[id]? = some (some R) → nameds r b m R.xs = true
  boxes : ∀ (id : Nat) B, σ.boxes[id]? = some (some B) → nameds r b m B.cs = true
  maps : ∀ (id : Nat) M, σ.maps[id]? = some (some M) → ∀ p ∈ M, p.1.named r b m = true ∧ p.2.named r b m = true

/-- What holds now, or held when the call began, names no more than there was. -/
structure Named2 (σ τ : Store) (r b m : Nat) : Prop where
  rows : ∀ (id : Nat) R, τ.rows[id]? = some (some R) → σ.rows[id]? = some (some R) ∨ nameds r b m R.xs = true
  boxes : ∀ (id : Nat) B, τ.boxes[id]? = some (some B) → σ.boxes[id]? = some (some B) ∨ nameds r b m B.cs = true
  maps : ∀ (id : Nat) M, τ.maps[id]? = some (some M) → σ.maps[id]? = some (some M) ∨ ∀ p ∈ M, p.1.named r b m = true ∧ p.2.named r b m = true

theorem RowRel.names {id : Nat} {R : Row} (hS : StoreRel w0 G σ w) (h : σ.rows[id]? = some (some R)) : nameds σ.rows.length σ.boxes.length σ.maps.length R.xs = true := by
  obtain ⟨A, c, _, hm⟩ := row_mem w hS h
  rcases hm with he | ⟨g, _, vs, hr, _⟩
  · rw [he]; rfl
  · rw [← nameds_flat, nameds_iff]
    intro d hd
    obtain ⟨i, hi⟩ := List.mem_iff_getElem?.1 hd
    obtain ⟨v, _, hv⟩ := hr.get hi
    exact hv.named
theorem RelL.names {cs : List DV} {vs : List Value} (hr : RelL G σ w cs vs) : nameds σ.rows.length σ.boxes.length σ.maps.length cs = true := by
  rw [nameds_iff]
  intro d hd
  obtain ⟨i, hi⟩ := List.mem_iff_getElem?.1 hd
  obtain ⟨v, _, hv⟩ := hr.get hi
  exact hv.named
theorem StoreRel.names (hS : StoreRel w0 G σ w) : Named σ σ.rows.length σ.boxes.length σ.maps.length := by
  refine ⟨fun id R h => RowRel.names hS h, fun id B h => ?_, fun id M h p hp => ?_⟩
  · obtain ⟨_, arr, _, hr⟩ := hS.boxes id B h
    exact hr.names
  · obtain ⟨_, ⟨_, es, clock, _, hz, hr, _⟩ | ⟨ks, vs, is, _, _, _, _, _, _, rfl, hcm, _⟩⟩ := hS.maps id M h
    rotate_left
    · have hcn := hcm.named
      simp only [iterL, List.mem_cons, List.mem_map] at hp
      rcases hp with rfl | ⟨i, _, rfl⟩
      · exact ⟨rfl, hcn⟩
      · exact ⟨rfl, rfl⟩
    obtain ⟨i, hi⟩ := List.mem_iff_getElem?.1 hp
    have hlt : i < es.size := by rw [hz]; exact (List.getElem?_eq_some_iff.1 hi).1
    obtain ⟨h1, h2⟩ := hr i _ p (Array.getElem?_eq_getElem hlt) hi
    exact ⟨h1.named, h2.named⟩

theorem RelL.trunc {r b m : Nat} {cs : List DV} {vs : List Value} (h : RelL G σ w cs vs) (hr : r ≤ σ.rows.length) (hb : b ≤ σ.boxes.length) (hm : m ≤ σ.maps.length) (hd : nameds r b m cs = true) : RelL G (σ.trunc r b m) w cs vs :=
  ⟨h.1, fun i c v hc hv => (h.2 i c v hc hv).trunc hr hb hm (nameds_iff.1 hd c (List.mem_of_getElem? hc))⟩

theorem StoreRel.trunc (hS : StoreRel w0 G σ w) {r b m : Nat} (hr : r ≤ σ.rows.length) (hb : b ≤ σ.boxes.length) (hm : m ≤ σ.maps.length) (hn : Named (σ.trunc r b m) r b m) : StoreRel w0 G (σ.trunc r b m) w := by
  refine ⟨hS.below, hS.lt, hS.trk, fun id R h => ?_, fun id B h => ?_, fun id M h => ?_⟩
  · have hns := hn.rows id R h
    simp only [Store.trunc, List.getElem?_take] at h
    split at h
    · obtain ⟨h0, h1, A, n, c, hA, hn', hc, hrow⟩ := hS.rows id R h
      refine ⟨h0, h1, A, n, c, hA, hn', hc, hrow.imp (fun h => h) (fun ⟨g, arr, fr, h2, h3, h4, h5, h6, h7⟩ => ⟨g, arr, fr, h2, h3, h4, h5, h6, fun i d v hd hv => (h7 i d v hd hv).trunc hr hb hm ?_⟩)⟩
      rw [← nameds_flat] at hns
      exact nameds_iff.1 hns d (List.mem_of_getElem? hd)
    · simp at h
  · have hns := hn.boxes id B h
    simp only [Store.trunc, List.getElem?_take] at h
    split at h
    · obtain ⟨h0, arr, h1, h2⟩ := hS.boxes id B h
      exact ⟨h0, arr, h1, h2.trunc hr hb hm hns⟩
    · simp at h
  · have hns := hn.maps id M h
    simp only [Store.trunc, List.getElem?_take] at h
    split at h
    · obtain ⟨h0, ⟨g0, es, clock, h1, h2, h3, h4⟩ | ⟨ks, vs, is, k, es, clock, since, last, seen, h1, h2, h3⟩⟩ := hS.maps id M h
      · exact ⟨h0, .inl ⟨g0, es, clock, h1, h2, fun i e p he hp => ⟨(h3 i e p he hp).1.trunc hr hb hm (hns p (List.mem_of_getElem? hp)).1, (h3 i e p he hp).2.trunc hr hb hm (hns p (List.mem_of_getElem? hp)).2⟩, h4⟩⟩
      · exact ⟨h0, .inr ⟨ks, vs, is, k, es, clock, since, last, seen, h1, h2.trunc hr hb hm (hns (.nilfn, .cm ks vs) (by rw [h1]; simp [iterL])).2, h3⟩⟩
    · simp at h

theorem Ext.trunc {G' : Gh} {σ' : Store} {w' : World} (hx : Ext G σ w G' σ' w') : Ext G σ w G' (σ'.trunc σ.rows.length σ.boxes.length σ.maps.length) w' := by
  have e1 := hx.rowsLen
  have e2 := hx.boxesLen
  have e3 := hx.mapsLen
  refine ⟨hx.imm, by simp only [Store.trunc, List.length_take]; omega, by simp only [Store.trunc, List.length_take]; omega, by simp only [Store.trunc, List.length_take]; omega, fun id R' hid hR' => ?_, hx.boxB, hx.mapB⟩
  simp only [Store.trunc, List.getElem?_take] at hR'
  rw [if_pos hid] at hR'
  exact hx.rowV id R' hid hR'

/-- A function that leaves what there was as it was, but for what it says. -/
theorem Does.clean {f : FuncId} {args : List DV} {R : DV → Store → Prop} (h : Does P f args σ R)
    (hq : ∀ r σ', R r σ' → r.named σ.rows.length σ.boxes.length σ.maps.length = true ∧ Named2 σ (σ'.trunc σ.rows.length σ.boxes.length σ.maps.length) σ.rows.length σ.boxes.length σ.maps.length) :
    Does P f args σ (fun r τ => ∃ σ', R r σ' ∧ τ = σ'.trunc σ.rows.length σ.boxes.length σ.maps.length) := by
  intro w0 G vs w hS hr
  refine (h w0 G vs w hS hr).mono ?_
  rintro e w' ⟨v, r, σ', G', he, hR, hS', hE, hv⟩
  obtain ⟨h1, h2⟩ := hq r σ' hR
  have hn := hS.names
  refine ⟨v, r, _, G', he, ⟨σ', hR, rfl⟩, hS'.trunc hE.rowsLen hE.boxesLen hE.mapsLen ⟨fun id R h => ?_, fun id B h => ?_, fun id M h => ?_⟩, hE.trunc, hv.trunc hE.rowsLen hE.boxesLen hE.mapsLen h1⟩
  · rcases h2.rows id R h with h3 | h3
    · exact hn.rows id R h3
    · exact h3
  · rcases h2.boxes id B h with h3 | h3
    · exact hn.boxes id B h3
    · exact h3
  · rcases h2.maps id M h with h3 | h3
    · exact hn.maps id M h3
    · exact h3

/-- A function of values alone: whatever there is stays, and the answer names nothing. -/
def Pure (P : Program) (f : FuncId) (args : List DV) (d : DV) : Prop := ∀ σ, Does P f args σ (one d σ)

theorem Pure.of {f : FuncId} {args : List DV} {d : DV} (hd : d.named 0 0 0 = true) (h : ∀ σ, Does P f args σ (fun r σ' => r = d ∧ ∃ rs bs ms, σ' = ⟨σ.rows ++ rs, σ.boxes ++ bs, σ.maps ++ ms⟩)) : Pure P f args d := by
  intro σ
  have hmono : ∀ r b m, d.named r b m = true := fun r b m => named_mono (Nat.zero_le _) (Nat.zero_le _) (Nat.zero_le _) d hd
  refine (Does.clean (h σ) ?_).mono ?_
  · rintro r σ' ⟨rfl, rs, bs, ms, rfl⟩
    refine ⟨hmono _ _ _, ⟨fun id R h => .inl ?_, fun id B h => .inl ?_, fun id M h => .inl ?_⟩⟩
    · simpa [Store.trunc] using h
    · simpa [Store.trunc] using h
    · simpa [Store.trunc] using h
  · rintro r τ ⟨σ', ⟨rfl, rs, bs, ms, rfl⟩, rfl⟩
    exact ⟨rfl, by simp [Store.trunc]⟩

/-- A new row that is handed back, under the next number. -/
theorem Does.own {f : FuncId} {args : List DV} {xs : List DV} {e : TypeId} {st : Nat} (hxs : nameds 0 0 0 xs = true)
    (h : Does P f args σ (fun r σ' => ∃ id, σ.rows.length ≤ id ∧ r = .row id xs.length ∧ σ'.rows[id]? = some (some ⟨xs, e, st⟩) ∧ ∃ rs bs ms, σ' = ⟨σ.rows ++ rs, σ.boxes ++ bs, σ.maps ++ ms⟩)) :
    Does P f args σ (one (.row σ.rows.length xs.length) { σ with rows := σ.rows ++ [some ⟨xs, e, st⟩] }) := by
  intro w0 G vs w hS hr
  refine (h w0 G vs w hS hr).mono ?_
  rintro ed w' ⟨v, r, σ', G', he, ⟨id, hid, rfl, hrow, rs, bs, ms, hσ⟩, hS', hE, hv⟩
  have htr : σ'.trunc σ.rows.length σ.boxes.length σ.maps.length = σ := by rw [hσ]; simp [Store.trunc]
  have hSt := hS'.trunc hE.rowsLen hE.boxesLen hE.mapsLen (by rw [htr]; exact hS.names)
  have hEt := hE.trunc
  rw [htr] at hSt hEt
  have hv2 : v = G'.rowV id := by
    cases hv with
    | row _ _ _ h1 h2 h3 => exact h3 _ hrow rfl
  obtain ⟨h0, hall, A, n, c, hA, hn, hc, hr2⟩ := hS'.rows id _ hrow
  have hR : ∀ (i : Nat) d u, (flat xs)[i]? = some d → RelV G' σ' w' d u → RelV G' σ w' d u := by
    intro i d u hd hu
    have := hu.trunc hE.rowsLen hE.boxesLen hE.mapsLen (named_mono (Nat.zero_le _) (Nat.zero_le _) (Nat.zero_le _) d (by
      rw [← nameds_flat] at hxs
      exact nameds_iff.1 hxs d (List.mem_of_getElem? hd)))
    rwa [htr] at this
  have hnone : ∀ k, σ.rows[σ.rows.length]? = some k → False := fun k hk => by simp at hk
  let G2 : Gh := { G' with own := fun k => if G'.own k = .row id then .row σ.rows.length else if G'.own k = .row σ.rows.length then .free else G'.own k, rowV := updN G'.rowV σ.rows.length v }
  have hown : ∀ k, G2.own k = if G'.own k = .row id then .row σ.rows.length else if G'.own k = .row σ.rows.length then .free else G'.own k := fun _ => rfl
  have keepO : ∀ k, (∀ i, σ.rows.length ≤ i → G'.own k ≠ .row i) → G2.own k = G'.own k := fun k hk => by
    rw [hown, if_neg (hk id hid), if_neg (hk _ (Nat.le_refl _))]
  have x2 : Ext G' σ w' G2 { σ with rows := σ.rows ++ [some ⟨xs, e, st⟩] } w' := by
    refine ⟨fun k hk => ⟨by rw [keepO k (fun i _ => by rw [hk]; simp)]; exact hk, rfl⟩, by simp, Nat.le_refl _, Nat.le_refl _, fun i R' hi hR' => ?_, fun _ _ => rfl, fun _ _ => rfl⟩
    rw [List.getElem?_append_left hi] at hR'
    exact ⟨R', hR', rfl, Nat.le_refl _, fun _ => by show updN _ _ _ _ = _; rw [updN_ne _ _ (by omega)]⟩
  refine ⟨v, _, _, G2, he, ⟨rfl, rfl⟩, ⟨hS'.below, fun k hk => ?_, fun k hk hi => ?_, fun i R hRi => ?_, fun i B hB => ?_, fun i M hM => ?_⟩, hEt.trans x2, ?_⟩
  · rw [hown] at hk
    split at hk
    · rename_i e; exact hS'.lt k (by rw [e]; simp)
    · split at hk
      · simp at hk
      · exact hS'.lt k hk
  · rw [hown] at hk hi
    split at hk
    · rename_i e; exact hS'.trk k (by rw [e]; simp) (by rw [e]; simp)
    · rename_i e1
      rw [if_neg e1] at hi
      split at hk
      · simp at hk
      · rename_i e2; rw [if_neg e2] at hi; exact hS'.trk k hk hi
  · rcases Nat.lt_trichotomy i σ.rows.length with hlt | rfl | hgt
    · simp only at hRi
      rw [List.getElem?_append_left hlt] at hRi
      exact (hSt.rows i R hRi).keep x2 (by show updN _ _ _ _ = _; rw [updN_ne _ _ (by omega)]) (fun k hk => ⟨by rw [keepO k (fun j hj => by rw [hk]; simp; omega)]; exact hk, rfl⟩)
    · simp at hRi
      subst hRi
      refine ⟨h0, hall, A, n, c, by show updN _ _ _ _ = _; rw [updN_same, hv2, hA], hn, hc, hr2.imp (fun h => h) (fun ⟨g, arr, fr, h2, h3, h4, h5, h6, h7⟩ => ⟨g, arr, fr, h2, by rw [hown, if_pos h3], h4, h5, h6, fun i d u hd hu => (hR i d u hd (h7 i d u hd hu)).ext x2⟩)⟩
    · simp only at hRi
      rw [List.getElem?_eq_none (by simp; omega)] at hRi
      simp at hRi
  · exact (hSt.boxes i B hB).keep x2 rfl (fun k hk => ⟨by rw [keepO k (fun j hj => by rw [hk]; simp)]; exact hk, rfl⟩)
  · exact (hSt.maps i M hM).keep x2 rfl (fun k hk => ⟨by rw [keepO k (fun j hj => by rw [hk]; simp)]; exact hk, rfl⟩)
  · refine .row _ _ _ (by simp) (fun R hR => ?_) (fun R hR _ => by show v = updN _ _ _ _; rw [updN_same])
    simp at hR
    subst hR
    simp
/-- A function of values alone that hands back a new row. -/
def PureOwn (P : Program) (f : FuncId) (args : List DV) (xs : List DV) (e : TypeId) (st : Nat) : Prop :=
  ∀ σ, Does P f args σ (one (.row σ.rows.length xs.length) { σ with rows := σ.rows ++ [some ⟨xs, e, st⟩] })
end
end Go.Val
