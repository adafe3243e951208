/- What a function hands back that is new, under the next numbers; what was there may have been written. -/
import Derived.Test.YtloeeiamgaljoaaVGo6
namespace Go.Val
open Go.RowKit
set_option linter.unusedSimpArgs false
set_option linter.unusedVariables false

mutual
/-- A value's places under other numbers. -/
def DV.ren (p q s : Nat → Nat) : DV → DV
  | .row i l => .row (p i) l
  | .ptr b o => .ptr (q b) o
  | .rp i l j o => .rp (p i) l j o
  | .mp i => .mp (s i)
  | .it i => .it (s i)
  | .cm a b => .cm a b
  | .agg cs => .agg (rens p q s cs)
  | .tup cs => .tup (rens p q s cs)
  | .fn f fs cs => .fn f (rens p q s fs) (rens p q s cs)
  | .undef => .undef
  | .int k n => .int k n
  | .bool b => .bool b
  | .str b => .str b
  | .sl xs => .sl xs
  | .slt xs => .slt xs
  | .cp xs => .cp xs
  | .nilp => .nilp
  | .nilfn => .nilfn
def rens (p q s : Nat → Nat) : List DV → List DV
  | [] => []
  | c :: cs => c.ren p q s :: rens p q s cs
end
mutual
def DV.top (r b m : Nat) : DV → Bool
  | .row i _ => decide (i < r)
  | .ptr i _ => decide (i < b)
  | .rp i _ _ _ => decide (i < r)
  | .mp i => decide (i < m)
  | .it i => decide (i < m)
  | .cm a b => nameds 0 0 0 a && nameds 0 0 0 b
  | .agg cs => tops r b m cs
  | .tup cs => tops r b m cs
  | .fn _ fs cs => tops r b m fs && tops r b m cs
  | .sl xs => nameds 0 0 0 xs
  | .slt xs => nameds 0 0 0 xs
  | .cp xs => nameds 0 0 0 xs
  | .undef => true
  | .int _ _ => true
  | .bool _ => true
  | .str _ => true
  | .nilp => true
  | .nilfn => true
def tops (r b m : Nat) : List DV → Bool
  | [] => true
  | c :: cs => c.top r b m && tops r b m cs
end
theorem rens_map (p q s : Nat → Nat) : ∀ cs, rens p q s cs = cs.map (DV.ren p q s)
  | [] => by simp [rens]
  | c :: cs => by simp [rens, rens_map p q s cs]
theorem tops_iff {r b m : Nat} : ∀ {cs : List DV}, tops r b m cs = true ↔ ∀ c ∈ cs, c.top r b m = true
  | [] => by simp [tops]
  | c :: cs => by simp [tops, tops_iff (cs := cs)]

/-- Places in one store and in another one. -/
structure Moves (G : Gh) (σ : Store) (p q s : Nat → Nat) (G2 : Gh) (σ2 : Store) (p2 q2 s2 : Nat → Nat) (r b m : Nat) : Prop where
  imm : ∀ k, G.own k = .imm → G2.own k = .imm
  rows : ∀ i, i < r → p2 i < σ2.rows.length ∧ ∀ R2, σ2.rows[p2 i]? = some (some R2) → ∃ R, σ.rows[p i]? = some (some R) ∧ R.xs.length = R2.xs.length ∧ R.st = R2.st ∧ G2.rowV (p2 i) = G.rowV (p i)
  boxes : ∀ i, i < b → q2 i < σ2.boxes.length ∧ G2.boxB (q2 i) = G.boxB (q i)
  maps : ∀ i, i < m → s2 i < σ2.maps.length ∧ G2.mapB (s2 i) = G.mapB (s i)

section
variable {P : Program} {T : TypeId → TI} {w0 : World} {G G2 : Gh} {σ σ2 : Store} {w : World} {r b m : Nat}

theorem RelV.move (hm : Moves G σ id id id G2 σ2 id id id r b m) {d : DV} {v : Value} (h : RelV G σ w d v) (hd : d.named r b m = true) : RelV G2 σ2 w d v := by
  have lst : ∀ {cs : List DV}, nameds r b m cs = true → ∀ (i : Nat) c, cs[i]? = some c → c.named r b m = true := by
    intro cs h i c hc
    exact nameds_iff.1 h c (List.mem_of_getElem? hc)
  induction h with
  | undef v => exact .undef v
  | int k n => exact .int k n
  | bool b => exact .bool b
  | str s => exact .str s
  | agg cs vs hl _ ih => simp only [DV.named] at hd; exact .agg cs vs hl (fun i c v hc hv => ih i c v hc hv (lst hd i c hc))
  | tup cs vs hl _ ih => simp only [DV.named] at hd; exact .tup cs vs hl (fun i c v hc hv => ih i c v hc hv (lst hd i c hc))
  | sl xs A n c st b o vs hn hc hA hst hmm hr ih => simp only [DV.named] at hd; rw [← nameds_flat] at hd; exact .sl xs A n c st b o vs hn hc (hA.imp (fun h => h) (fun h => ⟨h.1, hm.imm _ h.2⟩)) hst hmm (fun i d he => ih i d he (lst hd i d he))
  | slt xs A n st b o vs hn hA hst hmm hr ih => simp only [DV.named] at hd; rw [← nameds_flat] at hd; exact .slt xs A n st b o vs hn (hA.imp (fun h => h) (fun h => ⟨h.1, hm.imm _ h.2⟩)) hst hmm (fun i d he => ih i d he (lst hd i d he))
  | row id len v hid hle h =>
    simp only [DV.named, decide_eq_true_eq] at hd
    obtain ⟨h1, h2⟩ := hm.rows id hd
    exact .row id len v h1 (fun R hR => by obtain ⟨R1, e1, e2, _, _⟩ := h2 R hR; rw [← e2]; exact hle R1 e1) (fun R hR hl => by obtain ⟨R1, e1, e2, _, e4⟩ := h2 R hR; rw [h R1 e1 (by rw [e2]; exact hl)]; exact e4.symm)
  | ptr b' off hb' =>
    simp only [DV.named, decide_eq_true_eq] at hd
    obtain ⟨h1, h2⟩ := hm.boxes b' hd
    simp only [_root_.id] at h1 h2
    rw [← h2]; exact .ptr b' off h1
  | cp cs b o vs him hmm hr ih => simp only [DV.named] at hd; exact .cp cs b o vs (hm.imm _ him) hmm (fun i d he => ih i d he (lst hd i d he))
  | rp id len i off v hid hle h =>
    simp only [DV.named, decide_eq_true_eq] at hd
    obtain ⟨h1, h2⟩ := hm.rows id hd
    exact .rp id len i off v h1 (fun R hR => by obtain ⟨R1, e1, e2, _, _⟩ := h2 R hR; rw [← e2]; exact hle R1 e1) (fun R hR hl => by
      obtain ⟨R1, e1, e2, e3, e4⟩ := h2 R hR
      obtain ⟨g, n, c, k1, k2⟩ := h R1 e1 (by rw [e2]; exact hl)
      exact ⟨g, n, c, by rw [show G2.rowV id = G.rowV id from e4]; exact k1, by rw [← e3]; exact k2⟩)
  | nilp => exact .nilp
  | fn f fs cs us vs hf _ hl _ ihF ih =>
    simp only [DV.named, Bool.and_eq_true] at hd
    exact .fn f fs cs us vs hf (fun i c v hc hv => ihF i c v hc hv (lst hd.1 i c hc)) hl (fun i c v hc hv => ih i c v hc hv (lst hd.2 i c hc))
  | nilfn => exact .nilfn
  | mp id hid =>
    simp only [DV.named, decide_eq_true_eq] at hd
    obtain ⟨h1, h2⟩ := hm.maps id hd
    simp only [_root_.id] at h1 h2
    rw [← h2]; exact .mp id h1
  | it id hid =>
    simp only [DV.named, decide_eq_true_eq] at hd
    obtain ⟨h1, h2⟩ := hm.maps id hd
    simp only [_root_.id] at h1 h2
    rw [← h2]; exact .it id h1
  | cm ks vs k clock es him hh h1 h2 hk hv hb hn ihk ihv =>
    simp only [DV.named, Bool.and_eq_true] at hd
    exact .cm ks vs k clock es (hm.imm _ him) hh h1 h2 (fun i d e he hq => ihk i d e he hq (lst hd.1 i d he)) (fun i d e he hq => ihv i d e he hq (lst hd.2 i d he)) hb hn

theorem Moves.closed {p q s p2 q2 s2 : Nat → Nat} (hm : Moves G σ p q s G2 σ2 p2 q2 s2 r b m) : Moves G σ id id id G2 σ2 id id id 0 0 0 :=
  ⟨hm.imm, fun i h => absurd h (Nat.not_lt_zero i), fun i h => absurd h (Nat.not_lt_zero i), fun i h => absurd h (Nat.not_lt_zero i)⟩

theorem RelL.nil_inv {vs : List Value} (h : RelL G σ w [] vs) : vs = [] := by have := h.1; cases vs with | nil => rfl | cons _ _ => simp at this
theorem RelL.cons_inv {c : DV} {cs : List DV} {vs : List Value} (h : RelL G σ w (c :: cs) vs) : ∃ v us, vs = v :: us ∧ RelV G σ w c v ∧ RelL G σ w cs us := by
  cases vs with
  | nil => have := h.1; simp at this
  | cons v us => exact ⟨v, us, rfl, h.2 0 c v rfl rfl, ⟨by simpa using h.1, fun i d u hd hu => h.2 (i + 1) d u (by simpa using hd) (by simpa using hu)⟩⟩

mutual
theorem RelV.ren {p q s p2 q2 s2 : Nat → Nat} (hm : Moves G σ p q s G2 σ2 p2 q2 s2 r b m) : ∀ (d : DV) (v : Value), d.top r b m = true → RelV G σ w (d.ren p q s) v → RelV G2 σ2 w (d.ren p2 q2 s2) v
  | .row i len, v, hd, h => by
    simp only [DV.top, decide_eq_true_eq] at hd
    simp only [DV.ren] at h ⊢
    obtain ⟨h1, h2⟩ := hm.rows i hd
    cases h with
    | row _ _ _ hid hle h => exact .row _ _ _ h1 (fun R hR => by obtain ⟨R1, e1, e2, _, _⟩ := h2 R hR; rw [← e2]; exact hle R1 e1) (fun R hR hl => by obtain ⟨R1, e1, e2, _, e4⟩ := h2 R hR; rw [h R1 e1 (by rw [e2]; exact hl)]; exact e4.symm)
  | .rp i len j off, v, hd, h => by
    simp only [DV.top, decide_eq_true_eq] at hd
    simp only [DV.ren] at h ⊢
    obtain ⟨h1, h2⟩ := hm.rows i hd
    cases h with
    | rp _ _ _ _ _ hid hle h =>
      exact .rp _ _ _ _ _ h1 (fun R hR => by obtain ⟨R1, e1, e2, _, _⟩ := h2 R hR; rw [← e2]; exact hle R1 e1) (fun R hR hl => by
        obtain ⟨R1, e1, e2, e3, e4⟩ := h2 R hR
        obtain ⟨g, n, c, k1, k2⟩ := h R1 e1 (by rw [e2]; exact hl)
        exact ⟨g, n, c, by rw [e4]; exact k1, by rw [← e3]; exact k2⟩)
  | .ptr i off, v, hd, h => by
    simp only [DV.top, decide_eq_true_eq] at hd
    simp only [DV.ren] at h ⊢
    obtain ⟨h1, h2⟩ := hm.boxes i hd
    cases h with
    | ptr _ _ hb => rw [← h2]; exact .ptr _ _ h1
  | .mp i, v, hd, h => by
    simp only [DV.top, decide_eq_true_eq] at hd
    simp only [DV.ren] at h ⊢
    obtain ⟨h1, h2⟩ := hm.maps i hd
    cases h with
    | mp _ hb => rw [← h2]; exact .mp _ h1
  | .it i, v, hd, h => by
    simp only [DV.top, decide_eq_true_eq] at hd
    simp only [DV.ren] at h ⊢
    obtain ⟨h1, h2⟩ := hm.maps i hd
    cases h with
    | it _ hb => rw [← h2]; exact .it _ h1
  | .cm a b, v, hd, h => by simp only [DV.ren] at h ⊢; exact h.move hm.closed (by simpa only [DV.top, DV.named] using hd)
  | .agg cs, v, hd, h => by
    simp only [DV.top] at hd
    simp only [DV.ren] at h ⊢
    cases h with
    | agg _ vs hl h => have := RelL.ren hm cs vs hd ⟨hl, h⟩; exact .agg _ _ this.1 this.2
  | .tup cs, v, hd, h => by
    simp only [DV.top] at hd
    simp only [DV.ren] at h ⊢
    cases h with
    | tup _ vs hl h => have := RelL.ren hm cs vs hd ⟨hl, h⟩; exact .tup _ _ this.1 this.2
  | .fn f fs cs, v, hd, h => by
    simp only [DV.top, Bool.and_eq_true] at hd
    simp only [DV.ren] at h ⊢
    cases h with
    | fn _ _ _ us vs h1 h2 h3 h4 =>
      have k1 := RelL.ren hm fs us hd.1 ⟨h1, h2⟩
      have k2 := RelL.ren hm cs vs hd.2 ⟨h3, h4⟩
      exact .fn _ _ _ _ _ k1.1 k1.2 k2.1 k2.2
  | .sl xs, v, hd, h => by simp only [DV.ren] at h ⊢; exact h.move hm.closed (by simpa only [DV.top, DV.named] using hd)
  | .slt xs, v, hd, h => by simp only [DV.ren] at h ⊢; exact h.move hm.closed (by simpa only [DV.top, DV.named] using hd)
  | .cp xs, v, hd, h => by simp only [DV.ren] at h ⊢; exact h.move hm.closed (by simpa only [DV.top, DV.named] using hd)
  | .undef, v, _, _ => .undef v
  | .int _ _, v, _, h => by simp only [DV.ren] at h ⊢; cases h; exact .int _ _
  | .bool _, v, _, h => by simp only [DV.ren] at h ⊢; cases h; exact .bool _
  | .str _, v, _, h => by simp only [DV.ren] at h ⊢; cases h; exact .str _
  | .nilp, v, _, h => by simp only [DV.ren] at h ⊢; cases h; exact .nilp
  | .nilfn, v, _, h => by simp only [DV.ren] at h ⊢; cases h; exact .nilfn
theorem RelL.ren {p q s p2 q2 s2 : Nat → Nat} (hm : Moves G σ p q s G2 σ2 p2 q2 s2 r b m) : ∀ (cs : List DV) (vs : List Value), tops r b m cs = true → RelL G σ w (rens p q s cs) vs → RelL G2 σ2 w (rens p2 q2 s2 cs) vs
  | [], vs, _, h => by simp only [rens] at h ⊢; rw [h.nil_inv]; exact .nil
  | c :: cs, vs, hd, h => by
    simp only [tops, Bool.and_eq_true] at hd
    simp only [rens] at h ⊢
    obtain ⟨v, us, rfl, h1, h2⟩ := h.cons_inv
    exact .cons (RelV.ren hm c v hd.1 h1) (RelL.ren hm cs us hd.2 h2)
end
theorem RelL.move (hm : Moves G σ id id id G2 σ2 id id id r b m) {cs : List DV} {vs : List Value} (h : RelL G σ w cs vs) (hd : nameds r b m cs = true) : RelL G2 σ2 w cs vs :=
  ⟨h.1, fun i c v hc hv => (h.2 i c v hc hv).move hm (nameds_iff.1 hd c (List.mem_of_getElem? hc))⟩

/-- Numbers of new things: which they were. -/
structure Kept (n : Nat) (k : Nat) (l : List Nat) : Prop where
  len : l.length = k
  nd : l.Nodup
  ge : ∀ i ∈ l, n ≤ i
def oldN (n : Nat) (l : List Nat) (j : Nat) : Nat := if j < n then j else l.getD (j - n) 0
def newN (n : Nat) (l : List Nat) (i : Nat) : Option Nat := if i < n then some i else if i ∈ l then some (n + l.idxOf i) else none
theorem newN_old {n : Nat} {l : List Nat} (hge : ∀ i ∈ l, n ≤ i) (hnd : l.Nodup) {j : Nat} (hj : j < n + l.length) : newN n l (oldN n l j) = some j := by
  by_cases h : j < n
  · unfold oldN newN; rw [if_pos h, if_pos h]
  · unfold oldN newN
    rw [if_neg h]
    have hlt : j - n < l.length := by omega
    have hx : l.getD (j - n) 0 = l[j - n] := by rw [List.getD_eq_getElem?_getD, List.getElem?_eq_getElem hlt]; rfl
    have hm : l[j - n] ∈ l := List.getElem_mem hlt
    rw [hx, if_neg (by have := hge _ hm; omega), if_pos hm, hnd.idxOf_getElem]
    congr 1; omega
theorem newN_inj {n : Nat} {l : List Nat} {i i' j : Nat} (h : newN n l i = some j) (h' : newN n l i' = some j) : i = i' := by
  unfold newN at h h'
  split at h
  · rename_i c
    simp only [Option.some.injEq] at h
    split at h'
    · simp only [Option.some.injEq] at h'; omega
    · split at h'
      · simp only [Option.some.injEq] at h'; omega
      · simp at h'
  · split at h
    · rename_i c c2
      simp only [Option.some.injEq] at h
      split at h'
      · simp only [Option.some.injEq] at h'; omega
      · split at h'
        · rename_i c3 c4
          simp only [Option.some.injEq] at h'
          have e : l.idxOf i = l.idxOf i' := by omega
          have a1 : l[l.idxOf i]'(List.idxOf_lt_length_iff.2 c2) = i := List.getElem_idxOf _
          have a2 : l[l.idxOf i']'(List.idxOf_lt_length_iff.2 c4) = i' := List.getElem_idxOf _
          rw [← a1, ← a2]
          simp only [e]
        · simp at h'
    · simp at h
def newO (n : Nat) (l : List Nat) (mk : Nat → Owner) (i : Nat) : Owner := match newN n l i with | some j => mk j | none => .free
def reO (nr : Nat) (kr : List Nat) (nb : Nat) (kb : List Nat) (nm : Nat) (km : List Nat) : Owner → Owner
  | .row i => newO nr kr .row i
  | .box i => newO nb kb .box i
  | .map i => newO nm km .map i
  | .imm => .imm
  | .free => .free

/-- What a body comes to that hands back what is new. -/
def RX (σ τ : Store) (d : DV) (rs : List Row) (bs : List Box) (ms : List (List (DV × DV))) : DV → Store → Prop := fun r σ' =>
  ∃ kr kb km, Kept σ.rows.length rs.length kr ∧ Kept σ.boxes.length bs.length kb ∧ Kept σ.maps.length ms.length km ∧
    r = d.ren (kr.getD · 0) (kb.getD · 0) (km.getD · 0) ∧
    (∀ j R, rs[j]? = some R → σ'.rows[kr.getD j 0]? = some (some R)) ∧ (∀ j B, bs[j]? = some B → σ'.boxes[kb.getD j 0]? = some (some B)) ∧ (∀ j M, ms[j]? = some M → σ'.maps[km.getD j 0]? = some (some M)) ∧ Grew τ σ'
def Store.plus (τ : Store) (rs : List Row) (bs : List Box) (ms : List (List (DV × DV))) : Store := ⟨τ.rows ++ rs.map some, τ.boxes ++ bs.map some, τ.maps ++ ms.map some⟩
/-- What was there is there, or has been written with what names nothing. -/
structure Wrote (σ τ : Store) : Prop where
  rl : τ.rows.length = σ.rows.length
  bl : τ.boxes.length = σ.boxes.length
  ml : τ.maps.length = σ.maps.length
  rows : ∀ (i : Nat) R, τ.rows[i]? = some (some R) → σ.rows[i]? = some (some R) ∨ nameds σ.rows.length σ.boxes.length σ.maps.length R.xs = true
  boxes : ∀ (i : Nat) B, τ.boxes[i]? = some (some B) → ∀ c ∈ B.cs, c.named 0 0 0 = true ∨ ∃ (i0 : Nat) (B0 : Box), σ.boxes[i0]? = some (some B0) ∧ c ∈ B0.cs
  maps : ∀ (i : Nat) M, τ.maps[i]? = some (some M) → σ.maps[i]? = some (some M) ∨ ∀ p ∈ M, p.1.named σ.rows.length σ.boxes.length σ.maps.length = true ∧ p.2.named σ.rows.length σ.boxes.length σ.maps.length = true
theorem Wrote.refl (σ : Store) : Wrote σ σ := ⟨rfl, rfl, rfl, fun _ _ h => .inl h, fun i B h c hc => .inr ⟨i, B, h, hc⟩, fun _ _ h => .inl h⟩

theorem plus_get {α : Type} {A : List (Option α)} {rs : List α} {j : Nat} {R : α} (h : (A ++ rs.map some)[j]? = some (some R)) :
    (j < A.length ∧ A[j]? = some (some R)) ∨ (A.length ≤ j ∧ rs[j - A.length]? = some R) := by
  rcases Nat.lt_or_ge j A.length with hj | hj
  · rw [List.getElem?_append_left hj] at h; exact .inl ⟨hj, h⟩
  · rw [List.getElem?_append_right hj, List.getElem?_map] at h
    refine .inr ⟨hj, ?_⟩
    cases hq : rs[j - A.length]? with
    | none => rw [hq] at h; simp at h
    | some x => rw [hq] at h; simpa using h
theorem oldN_lt {n : Nat} {l : List Nat} {j : Nat} (h : j < n) : oldN n l j = j := by unfold oldN; rw [if_pos h]
theorem oldN_ge {n : Nat} {l : List Nat} (j : Nat) : oldN n l (n + j) = l.getD j 0 := by unfold oldN; rw [if_neg (by omega), Nat.add_sub_cancel_left]

theorem Does.fx {f : FuncId} {args : List DV} {τ : Store} {d : DV} {rs : List Row} {bs : List Box} {ms : List (List (DV × DV))}
    (hd : d.top rs.length bs.length ms.length = true) (hrs : ∀ R ∈ rs, nameds 0 0 0 R.xs = true) (hbs : ∀ B ∈ bs, nameds 0 0 0 B.cs = true) (hms : ∀ M ∈ ms, ∀ p ∈ M, p.1.named 0 0 0 = true ∧ p.2.named 0 0 0 = true)
    (hτ : Wrote σ τ) (h : Does P f args σ (RX σ τ d rs bs ms)) :
    Does P f args σ (one (d.ren (σ.rows.length + ·) (σ.boxes.length + ·) (σ.maps.length + ·)) (τ.plus rs bs ms)) := by
  intro w0 G vs w hS hr
  refine (h w0 G vs w hS hr).mono ?_
  rintro ed w' ⟨v, r, σ', G', he, ⟨kr, kb, km, Kr, Kb, Km, hrd, gr, gb, gm, hg⟩, hS', hE, hv⟩
  obtain ⟨lr, nr, er⟩ := Kr
  obtain ⟨lb, nb, eb⟩ := Kb
  obtain ⟨lm, nm, em⟩ := Km
  subst hrd
  obtain ⟨⟨ra, hra⟩, ⟨ba, hba⟩, ⟨ma, hma⟩⟩ := hg
  have hns := hS.names
  let G2 : Gh := { own := fun k => reO σ.rows.length kr σ.boxes.length kb σ.maps.length km (G'.own k), rowV := fun j => G'.rowV (oldN σ.rows.length kr j), boxB := fun j => G'.boxB (oldN σ.boxes.length kb j), mapB := fun j => G'.mapB (oldN σ.maps.length km j) }
  have hown : ∀ k, G2.own k = reO σ.rows.length kr σ.boxes.length kb σ.maps.length km (G'.own k) := fun _ => rfl
  have himm : ∀ k, G'.own k = .imm → G2.own k = .imm := fun k hk => by rw [hown, hk]; rfl
  have hfree : ∀ k, G2.own k ≠ .free → G'.own k ≠ .free := fun k hk hf => hk (by rw [hown, hf]; rfl)
  have himm2 : ∀ k, G2.own k ≠ .imm → G'.own k ≠ .imm := fun k hk hf => hk (himm k hf)
  -- the old thing of each new number
  have oR : ∀ (j : Nat) (R : Row), (τ.plus rs bs ms).rows[j]? = some (some R) → σ'.rows[oldN σ.rows.length kr j]? = some (some R) ∧ j < σ.rows.length + kr.length := by
    intro j R hj
    rcases plus_get hj with ⟨h1, h2⟩ | ⟨h1, h2⟩
    · rw [hτ.rl] at h1
      rw [oldN_lt h1, hra, List.getElem?_append_left (by rw [hτ.rl]; exact h1)]
      exact ⟨h2, by omega⟩
    · rw [hτ.rl] at h1 h2
      have := gr _ _ h2
      rw [show j = σ.rows.length + (j - σ.rows.length) by omega, oldN_ge]
      exact ⟨this, by have := (List.getElem?_eq_some_iff.1 h2).1; omega⟩
  have oB : ∀ (j : Nat) (R : Box), (τ.plus rs bs ms).boxes[j]? = some (some R) → σ'.boxes[oldN σ.boxes.length kb j]? = some (some R) ∧ j < σ.boxes.length + kb.length := by
    intro j R hj
    rcases plus_get hj with ⟨h1, h2⟩ | ⟨h1, h2⟩
    · rw [hτ.bl] at h1
      rw [oldN_lt h1, hba, List.getElem?_append_left (by rw [hτ.bl]; exact h1)]
      exact ⟨h2, by omega⟩
    · rw [hτ.bl] at h1 h2
      have := gb _ _ h2
      rw [show j = σ.boxes.length + (j - σ.boxes.length) by omega, oldN_ge]
      exact ⟨this, by have := (List.getElem?_eq_some_iff.1 h2).1; omega⟩
  have oM : ∀ (j : Nat) (R : List (DV × DV)), (τ.plus rs bs ms).maps[j]? = some (some R) → σ'.maps[oldN σ.maps.length km j]? = some (some R) ∧ j < σ.maps.length + km.length := by
    intro j R hj
    rcases plus_get hj with ⟨h1, h2⟩ | ⟨h1, h2⟩
    · rw [hτ.ml] at h1
      rw [oldN_lt h1, hma, List.getElem?_append_left (by rw [hτ.ml]; exact h1)]
      exact ⟨h2, by omega⟩
    · rw [hτ.ml] at h1 h2
      have := gm _ _ h2
      rw [show j = σ.maps.length + (j - σ.maps.length) by omega, oldN_ge]
      exact ⟨this, by have := (List.getElem?_eq_some_iff.1 h2).1; omega⟩
  -- what was there moves as it is
  have mv : Moves G' σ' id id id G2 (τ.plus rs bs ms) id id id σ.rows.length σ.boxes.length σ.maps.length := by
    refine ⟨himm, fun i hi => ⟨by simp only [Store.plus, _root_.id, List.length_append, hτ.rl]; omega, fun R2 hR2 => ?_⟩, fun i hi => ⟨by simp only [Store.plus, _root_.id, List.length_append, hτ.bl]; omega, ?_⟩, fun i hi => ⟨by simp only [Store.plus, _root_.id, List.length_append, hτ.ml]; omega, ?_⟩⟩
    · have := (oR _ _ hR2).1
      simp only [_root_.id] at this ⊢
      rw [oldN_lt hi] at this
      exact ⟨R2, this, rfl, rfl, by show G'.rowV _ = _; rw [oldN_lt hi]⟩
    · show G'.boxB _ = _; simp only [_root_.id]; rw [oldN_lt hi]
    · show G'.mapB _ = _; simp only [_root_.id]; rw [oldN_lt hi]
  have mvd : Moves G' σ' (kr.getD · 0) (kb.getD · 0) (km.getD · 0) G2 (τ.plus rs bs ms) (σ.rows.length + ·) (σ.boxes.length + ·) (σ.maps.length + ·) rs.length bs.length ms.length := by
    refine ⟨himm, fun i hi => ⟨by simp only [Store.plus, List.length_append, List.length_map, hτ.rl]; omega, fun R2 hR2 => ?_⟩, fun i hi => ⟨by simp only [Store.plus, List.length_append, List.length_map, hτ.bl]; omega, ?_⟩, fun i hi => ⟨by simp only [Store.plus, List.length_append, List.length_map, hτ.ml]; omega, ?_⟩⟩
    · have := (oR _ _ hR2).1
      rw [oldN_ge] at this
      exact ⟨R2, this, rfl, rfl, by show G'.rowV _ = _; rw [oldN_ge]⟩
    · show G'.boxB _ = _; rw [oldN_ge]
    · show G'.mapB _ = _; rw [oldN_ge]
  have cn : ∀ {xs : List DV}, nameds 0 0 0 xs = true → nameds σ.rows.length σ.boxes.length σ.maps.length xs = true := fun h => nameds_mono (Nat.zero_le _) (Nat.zero_le _) (Nat.zero_le _) _ h
  have cn1 : ∀ {x : DV}, x.named 0 0 0 = true → x.named σ.rows.length σ.boxes.length σ.maps.length = true := fun h => named_mono (Nat.zero_le _) (Nat.zero_le _) (Nat.zero_le _) _ h
  have nR : ∀ (j : Nat) (R : Row), (τ.plus rs bs ms).rows[j]? = some (some R) → nameds σ.rows.length σ.boxes.length σ.maps.length R.xs = true := by
    intro j R hj
    rcases plus_get hj with ⟨h1, h2⟩ | ⟨h1, h2⟩
    · rcases hτ.rows j R h2 with h3 | h3
      · exact hns.rows j R h3
      · exact h3
    · exact cn (hrs R (List.mem_of_getElem? h2))
  have nB : ∀ (j : Nat) (B : Box), (τ.plus rs bs ms).boxes[j]? = some (some B) → nameds σ.rows.length σ.boxes.length σ.maps.length B.cs = true := by
    intro j R hj
    rcases plus_get hj with ⟨h1, h2⟩ | ⟨h1, h2⟩
    · rw [nameds_iff]
      intro c hc
      rcases hτ.boxes j R h2 c hc with h3 | ⟨i0, B0, h3, h4⟩
      · exact cn1 h3
      · exact nameds_iff.1 (hns.boxes i0 B0 h3) c h4
    · exact cn (hbs R (List.mem_of_getElem? h2))
  have nM : ∀ (j : Nat) (M : List (DV × DV)), (τ.plus rs bs ms).maps[j]? = some (some M) → ∀ p ∈ M, p.1.named σ.rows.length σ.boxes.length σ.maps.length = true ∧ p.2.named σ.rows.length σ.boxes.length σ.maps.length = true := by
    intro j R hj
    rcases plus_get hj with ⟨h1, h2⟩ | ⟨h1, h2⟩
    · rcases hτ.maps j R h2 with h3 | h3
      · exact hns.maps j R h3
      · exact h3
    · exact fun p hp => ⟨cn1 (hms R (List.mem_of_getElem? h2) p hp).1, cn1 (hms R (List.mem_of_getElem? h2) p hp).2⟩
  refine ⟨v, _, _, G2, he, ⟨rfl, rfl⟩, ⟨hS'.below, fun k hk => hS'.lt k (hfree k hk), fun k hk hi => hS'.trk k (hfree k hk) (himm2 k hi), fun j R hj => ?_, fun j B hj => ?_, fun j M hj => ?_⟩, ?_, ?_⟩
  · obtain ⟨h1, h2⟩ := oR j R hj
    have hn := nR j R hj
    obtain ⟨h0, hall, A, n, c, hA, hn', hc, hr2⟩ := hS'.rows _ _ h1
    refine ⟨h0, hall, A, n, c, hA, hn', hc, hr2.imp (fun h => h) (fun ⟨g, arr, fr, a1, a2, a3, a4, a5, a6⟩ => ⟨g, arr, fr, a1, ?_, a3, a4, a5, fun i d u hd hu => (a6 i d u hd hu).move mv ?_⟩)⟩
    · rw [hown, a2]; simp only [reO, newO, newN_old er nr h2]
    · rw [← nameds_flat] at hn; exact nameds_iff.1 hn d (List.mem_of_getElem? hd)
  · obtain ⟨h1, h2⟩ := oB j B hj
    obtain ⟨a0, arr, a1, a2⟩ := hS'.boxes _ _ h1
    refine ⟨?_, arr, a1, a2.move mv (nB j B hj)⟩
    show G2.own (G'.boxB _) = _
    rw [hown, a0]; simp only [reO, newO, newN_old eb nb h2]
  · obtain ⟨h1, h2⟩ := oM j M hj
    have hn := nM j M hj
    obtain ⟨a0, a⟩ := hS'.maps _ _ h1
    refine ⟨?_, a.imp ?_ ?_⟩
    · show G2.own (G'.mapB _) = _
      rw [hown, a0]; simp only [reO, newO, newN_old em nm h2]
    · rintro ⟨g0, es, clock, a1, a2, a3, a4⟩
      exact ⟨g0, es, clock, a1, a2, fun i e p he hp => ⟨(a3 i e p he hp).1.move mv (hn p (List.mem_of_getElem? hp)).1, (a3 i e p he hp).2.move mv (hn p (List.mem_of_getElem? hp)).2⟩, a4⟩
    · rintro ⟨ks, vs, is, k, es, clock, since, last, seen, h1, h2, h3⟩
      exact ⟨ks, vs, is, k, es, clock, since, last, seen, h1, h2.move mv (hn (.nilfn, .cm ks vs) (by rw [h1]; simp [iterL])).2, h3⟩
  · refine ⟨fun k hk => ⟨himm k (hE.imm k hk).1, (hE.imm k hk).2⟩, by simp only [Store.plus, List.length_append, hτ.rl]; omega, by simp only [Store.plus, List.length_append, hτ.bl]; omega, by simp only [Store.plus, List.length_append, hτ.ml]; omega, fun id R' hid hR' => ?_, fun i hi => ?_, fun i hi => ?_⟩
    · have := (oR _ _ hR').1
      rw [oldN_lt hid] at this
      obtain ⟨R, b1, b2, b3, b4⟩ := hE.rowV id R' hid this
      exact ⟨R, b1, b2, b3, fun hl => by show G'.rowV _ = _; rw [oldN_lt hid]; exact b4 hl⟩
    · show G'.boxB _ = _; rw [oldN_lt hi]; exact hE.boxB i hi
    · show G'.mapB _ = _; rw [oldN_lt hi]; exact hE.mapB i hi
  · exact RelV.ren mvd d v hd hv
end
end Go.Val
