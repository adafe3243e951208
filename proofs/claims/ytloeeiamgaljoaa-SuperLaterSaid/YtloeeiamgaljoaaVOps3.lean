/- Cuts, conversions, lengths, values built; and one function for all operations without a trace. -/
import Derived.Test.YtloeeiamgaljoaaVOps2
namespace Go.Val
open Go.RowKit
set_option linter.unusedSimpArgs false
set_option linter.unusedVariables false

section
variable {P : Program} {T : TypeId → TI} {G : Gh} {σ : Store} (w : World)

theorem sliceBound_ok {n : Int} {k : IntKind} {y : Nat} {code : BoundsCode} (h0 : 0 ≤ n) (h1 : n.toNat ≤ y) : (Instr.sliceBound (.int k n) y code).run P w = .ok n.toNat w := by
  simp only [Instr.sliceBound, asIntOf, Sem.run_bind, Sem.run_pure, Result.andThen_ok]
  rw [if_pos ⟨h0, by omega⟩]
  rfl

def OptRel (G : Gh) (σ : Store) (w : World) (d : Option DV) (v : Option Value) : Prop :=
  match d, v with
  | none, none => True
  | some d, some v => RelV G σ w d v
  | _, _ => False

theorem sliceBounds_ok {lo hi : Option DV} {vl vh : Option Value} {isS : Bool} {len cap l h : Nat} (hl : OptRel G σ w lo vl) (hh : OptRel G σ w hi vh)
    (el : boundD lo 0 = some l) (eh : boundD hi len = some h) (ol : boundOk lo) (oh : boundOk hi) (lh : l ≤ h) (hc : h ≤ cap) :
    (Instr.sliceBounds isS len cap vl vh none).run P w = .ok (l, h, cap) w := by
  have e1 : (match vh with | some v => Instr.sliceBound v cap (if isS then BoundsCode.sliceAcap else .sliceAlen) | none => pure len : Sem Nat).run P w = .ok h w := by
    cases hi with
    | none => cases vh with
      | none => simp [boundD] at eh; simp [eh]
      | some v => exact hh.elim
    | some d => cases vh with
      | none => exact hh.elim
      | some v =>
        cases d <;> simp [boundD] at eh
        subst eh
        cases hh
        exact sliceBound_ok w oh hc
  have e2 : (match vl with | some v => Instr.sliceBound v h (if (none : Option Value).isSome then BoundsCode.slice3C else .sliceB) | none => pure 0 : Sem Nat).run P w = .ok l w := by
    cases lo with
    | none => cases vl with
      | none => simp [boundD] at el; simp [el]
      | some v => exact hl.elim
    | some d => cases vl with
      | none => exact hl.elim
      | some v =>
        cases d <;> simp [boundD] at el
        subst el
        cases hl
        exact sliceBound_ok w ol lh
  unfold Instr.sliceBounds
  simp only [Sem.run_bind, Sem.run_pure, Result.andThen_ok]
  cases vh <;> cases vl <;> simp_all

theorem sliceBounds_ok3 {lo hi : Option DV} {m : DV} {vl vh : Option Value} {vm : Value} {isS : Bool} {len cap l h k : Nat} (hl : OptRel G σ w lo vl) (hh : OptRel G σ w hi vh) (hm : RelV G σ w m vm)
    (el : boundD lo 0 = some l) (eh : boundD hi len = some h) (ek : boundD (some m) 0 = some k) (hs : hi.isSome) (ol : boundOk lo) (oh : boundOk hi) (om : boundOk (some m)) (lh : l ≤ h) (hk : h ≤ k) (hc : k ≤ cap) :
    (Instr.sliceBounds isS len cap vl vh (some vm)).run P w = .ok (l, h, k) w := by
  have e0 : (Instr.sliceBound vm cap (if isS then BoundsCode.slice3Acap else .slice3Alen)).run P w = .ok k w := by
    cases m <;> simp [boundD] at ek
    subst ek
    cases hm
    exact sliceBound_ok w om hc
  cases hi with
  | none => simp at hs
  | some d => cases vh with
    | none => exact hh.elim
    | some v =>
      have e1 : (Instr.sliceBound v k BoundsCode.slice3B).run P w = .ok h w := by
        cases d <;> simp [boundD] at eh
        subst eh
        cases hh
        exact sliceBound_ok w oh hk
      have e2 : (match vl with | some v => Instr.sliceBound v h BoundsCode.slice3C | none => pure 0 : Sem Nat).run P w = .ok l w := by
        cases lo with
        | none => cases vl with
          | none => simp [boundD] at el; simp [el]
          | some v => exact hl.elim
        | some d => cases vl with
          | none => exact hl.elim
          | some v =>
            cases d <;> simp [boundD] at el
            subst el
            cases hl
            exact sliceBound_ok w ol lh
      unfold Instr.sliceBounds
      simp only [Sem.run_bind, Sem.run_pure, Result.andThen_ok, e0, e1]
      cases vl <;> simp_all

theorem str_cut (s : List UInt8) (l h : Nat) (hl : l ≤ h) (hh : h ≤ s.length) : (⟨s.toArray⟩ : ByteArray).extract l h = ⟨((s.take h).drop l).toArray⟩ := by
  rw [Lib.extract_eq]
  congr 2
  simp [List.drop_take]

theorem sub_mem {xs : List DV} {A : Option Addr} {st l h : Nat} (hst : ∀ x ∈ xs, x.cells.length = st)
    (hm : xs = [] ∨ ∃ b o, A = some ⟨b, o, none⟩ ∧ G.own b = .imm ∧ MemAt G σ w b o (flat xs)) (hl : l ≤ h) (hh : h ≤ xs.length) (hlt : l ≠ h) :
    ∃ b o, A.map (·.add (l * st)) = some ⟨b, o, none⟩ ∧ G.own b = .imm ∧ MemAt G σ w b o (flat ((xs.take h).drop l)) := by
  rcases hm with rfl | ⟨b, o, rfl, hi, hm⟩
  · simp at hh; omega
  · refine ⟨b, o + l * st, by simp [Addr_add], hi, ?_⟩
    rw [flat_drop (fun x hx => hst x (List.mem_of_mem_take hx)), flat_take hst]
    exact (hm.take _).drop _

theorem cut_len {xs : List DV} {l h : Nat} (hl : l ≤ h) (hh : h ≤ xs.length) : ((xs.take h).drop l).length = h - l := by simp; omega

theorem sliceD_sound (hT : TOK P T) {t : TypeId} {x : DV} {lo hi mx : Option DV} {vx : Value} {vl vh vm : Option Value} {C : Prop} {d : DV} (hx : RelV G σ w x vx)
    (hlo : OptRel G σ w lo vl) (hhi : OptRel G σ w hi vh) (hmx : OptRel G σ w mx vm) (hD : sliceD T t x lo hi mx = some (C, d)) (hc : C) : VRun P G σ w (Instr.sliceAt t vx vl vh vm) d := by
  have nocut : ∀ (xs : List DV) (h : Nat), (xs.take h).drop h = [] := fun xs h => by rw [List.drop_eq_nil_iff]; simp; omega
  have two : ∀ (e : TypeId) (xs : List DV) (A : Option Addr) (c st l h : Nat), (T t).ty = .slice e → (T e).ty ≠ .other → xs.length ≤ c → (∀ x ∈ xs, x.cells.length = (T e).size) →
      (xs = [] ∨ ∃ b o, A = some ⟨b, o, none⟩ ∧ G.own b = .imm ∧ MemAt G σ w b o (flat xs)) → boundD lo 0 = some l → boundD hi xs.length = some h → boundOk lo → boundOk hi → l ≤ h → h ≤ xs.length → mx = none →
      VRun P G σ w (Instr.sliceAt t (.slice A xs.length c) vl vh vm) (.sl ((xs.take h).drop l)) := by
    intro e xs A c st l h hy hne hcap hst hm el eh ol oh lh hh hnone
    subst hnone
    cases vm with
    | some v => exact hmx.elim
    | none =>
      have hb := sliceBounds_ok (P := P) w (isS := true) (len := xs.length) (cap := c) hlo hhi el eh ol oh lh (by omega)
      have hcut := cut_len lh hh
      refine ⟨.slice (if c = l then A else A.map (·.add (l * (T e).size))) (h - l) (c - l), ?_, ?_⟩
      · simp [Instr.sliceAt, Instr.slice, TOK.und_slice hT w hy, TOK.size hT w hne, hb]
      · rw [← hcut]
        refine RelV.sl_mk (by omega) (fun x hx => hst x (List.mem_of_mem_take (List.mem_of_mem_drop hx))) ?_
        by_cases he : l = h
        · subst he; exact .inl (nocut xs l)
        · rw [if_neg (by omega)]
          exact .inr (sub_mem w hst hm lh hh he)
  have three : ∀ (e : TypeId) (xs : List DV) (A : Option Addr) (c st l h k : Nat) (m : DV), (T t).ty = .slice e → (T e).ty ≠ .other → xs.length ≤ c → (∀ x ∈ xs, x.cells.length = (T e).size) →
      (xs = [] ∨ ∃ b o, A = some ⟨b, o, none⟩ ∧ G.own b = .imm ∧ MemAt G σ w b o (flat xs)) → boundD lo 0 = some l → boundD hi xs.length = some h → boundD (some m) 0 = some k → hi.isSome → boundOk lo → boundOk hi → boundOk (some m) → l ≤ h → h = k → k ≤ xs.length → mx = some m →
      VRun P G σ w (Instr.sliceAt t (.slice A xs.length c) vl vh vm) (.slt ((xs.take h).drop l)) := by
    intro e xs A c st l h k m hy hne hcap hst hm el eh ek hs ol oh om lh hk hh hsome
    subst hsome
    subst hk
    cases vm with
    | none => exact hmx.elim
    | some vm =>
      have hb := sliceBounds_ok3 (P := P) w (isS := true) (len := xs.length) (cap := c) hlo hhi hmx el eh ek hs ol oh om lh (Nat.le_refl _) (by omega)
      have hcut := cut_len lh hh
      refine ⟨.slice (if h = l then A else A.map (·.add (l * (T e).size))) (h - l) (h - l), ?_, ?_⟩
      · simp [Instr.sliceAt, Instr.slice, TOK.und_slice hT w hy, TOK.size hT w hne, hb]
      · rw [← hcut]
        refine RelV.slt_mk (fun x hx => hst x (List.mem_of_mem_take (List.mem_of_mem_drop hx))) ?_
        by_cases he : l = h
        · subst he; exact .inl (nocut xs l)
        · rw [if_neg (by omega)]
          exact .inr (sub_mem w hst hm lh hh he)
  unfold sliceD at hD
  split at hD
  · rename_i s hy
    split at hD
    · rename_i l hh el eh
      simp only [Option.some.injEq, Prod.mk.injEq] at hD; obtain ⟨rfl, rfl⟩ := hD
      obtain ⟨ol, oh, lh, hle⟩ := hc
      cases hx
      cases vm with
      | some v => exact hmx.elim
      | none =>
        have hb := sliceBounds_ok (P := P) w (isS := false) (len := s.length) (cap := s.length) hlo hhi el eh ol oh lh hle
        have hz : (⟨s.toArray⟩ : ByteArray).size = s.length := by simp [ByteArray.size]
        refine ⟨_, ?_, .str _⟩
        simp [Instr.sliceAt, Instr.slice, TOK.und_str hT w hy, hz, hb, str_cut s l hh lh hle]
    · simp at hD
  · rename_i e xs hy
    split at hD
    · rename_i l hh el eh
      simp only [Option.some.injEq, Prod.mk.injEq] at hD; obtain ⟨rfl, rfl⟩ := hD
      obtain ⟨A, c, st, rfl, hcap, _, hm⟩ := hx.sl_mem
      exact two e xs A c st l hh hy hc.1 hcap hc.2.2.2.2.2 hm el eh hc.2.1 hc.2.2.1 hc.2.2.2.1 hc.2.2.2.2.1 rfl
    · simp at hD
  · rename_i e xs hy
    split at hD
    · rename_i l hh el eh
      simp only [Option.some.injEq, Prod.mk.injEq] at hD; obtain ⟨rfl, rfl⟩ := hD
      obtain ⟨A, st, rfl, _, hm⟩ := hx.slt_mem
      exact two e xs A _ st l hh hy hc.1 (Nat.le_refl _) hc.2.2.2.2.2 hm el eh hc.2.1 hc.2.2.1 hc.2.2.2.1 hc.2.2.2.2.1 rfl
    · simp at hD
  · rename_i e xs m hy
    split at hD
    · rename_i l hh k el eh ek
      simp only [Option.some.injEq, Prod.mk.injEq] at hD; obtain ⟨rfl, rfl⟩ := hD
      obtain ⟨A, c, st, rfl, hcap, _, hm⟩ := hx.sl_mem
      obtain ⟨h1, h2, h3, h4, h5, h6, h7, h8, h9⟩ := hc
      exact three e xs A c st l hh k m hy h1 hcap h9 hm el eh ek h2 h3 h4 h5 h6 h7 h8 rfl
    · simp at hD
  · rename_i e xs m hy
    split at hD
    · rename_i l hh k el eh ek
      simp only [Option.some.injEq, Prod.mk.injEq] at hD; obtain ⟨rfl, rfl⟩ := hD
      obtain ⟨A, st, rfl, _, hm⟩ := hx.slt_mem
      obtain ⟨h1, h2, h3, h4, h5, h6, h7, h8, h9⟩ := hc
      exact three e xs A _ st l hh k m hy h1 (Nat.le_refl _) h9 hm el eh ek h2 h3 h4 h5 h6 h7 h8 rfl
    · simp at hD
  · rename_i n e cs hy
    split at hD
    · rename_i l hh el eh
      simp only [Option.some.injEq, Prod.mk.injEq] at hD; obtain ⟨rfl, rfl⟩ := hD
      obtain ⟨hne, hsz, hn, hall, ol, oh, lh, hle⟩ := hc
      obtain ⟨b, o, rfl, him, hm⟩ := hx.cp_mem
      cases vm with
      | some v => exact hmx.elim
      | none =>
        have hb := sliceBounds_ok (P := P) w (isS := false) (len := n) (cap := n) hlo hhi el eh ol oh lh hle
        have hlen : (cs.take n).length = n := by simp; omega
        have hcut := cut_len (xs := cs.take n) lh (by omega)
        have hfl : ∀ ds : List DV, (∀ x ∈ ds, x.cells = [x]) → flat ds = ds := by
          intro ds
          induction ds with
          | nil => intro _; rfl
          | cons c cs ih =>
            intro hd
            have := ih (fun x hx => hd x (by simp [hx]))
            simp only [flat, List.flatMap_cons, hd c (by simp)] at *
            rw [this]
            rfl
        have hall' : ∀ x ∈ cs.take n, x.cells.length = 1 := fun x hx => by rw [hall x hx]; rfl
        refine ⟨.slice (some (if n = l then ⟨b, o, none⟩ else (⟨b, o, none⟩ : Addr).add (l * (T e).size))) (hh - l) (n - l), ?_, ?_⟩
        · simp [Instr.sliceAt, TOK.und_array hT w hy, TOK.size hT w hne, hb, Instr.sureAddr]
        · rw [← hcut]
          refine RelV.sl_mk (by omega) (fun x hx => hall' x (List.mem_of_mem_take (List.mem_of_mem_drop hx))) ?_
          by_cases he : l = hh
          · subst he; exact .inl (nocut _ l)
          · rw [if_neg (by omega), hsz]
            have := sub_mem (A := some ⟨b, o, none⟩) w hall' (.inr ⟨b, o, rfl, him, by rw [hfl _ hall]; exact hm.take n⟩) lh (by omega) he
            obtain ⟨b1, o1, e1, h1, h2⟩ := this
            exact .inr ⟨b1, o1, by simpa using e1, h1, h2⟩
    · simp at hD
  · simp at hD
end
end Go.Val
