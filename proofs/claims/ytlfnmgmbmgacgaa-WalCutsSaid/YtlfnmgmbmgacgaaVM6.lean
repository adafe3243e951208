/- What a function hands back that is new, under the next numbers; what was there may have been written. Contracts for what hands back what is new, and for what writes a variable of its caller's; the rules. Functions that are handed a function: what it says of each thing. Regions that draw their order and make variables that nothing orders: their numbers are those of the text. Texts' octets laid out in a region that draws its order: one step of such a region, where a block that is only read gets its mark. Regions that draw their order, lay out texts' octets, and make variables that nothing orders. Drawn regions that write two variables, and read others. -/
import Derived.Test.YtlfnmgmbmgacgaaVM5
section
namespace Go.Val
open Go.RowKit
set_option linter.unusedSimpArgs false
set_option linter.unusedVariables false

mutual
def DV.ren (p q s : Nat → Nat) : DV → DV
 | .row i l => .row (p i) l
 | .ptr b o => .ptr (q b) o
 | .rp i l j o => .rp (p i) l j o
 | .mp i => .mp (s i)
 | .it i => .it (s i)
 | .cm a b => .cm a b
 | .agg cs => .agg (rens p q s cs)
 | .tup cs => .tup (rens p q s cs)
 | .fn f fs cs => .fn f (rens p q s fs) (rens p q s cs)
 | .undef => .undef
 | .int k n => .int k n
 | .bool b => .bool b
 | .str b => .str b
 | .sl xs => .sl xs
 | .slt xs => .slt xs
 | .cp xs => .cp xs
 | .nilp => .nilp
 | .nilfn => .nilfn
def rens (p q s : Nat → Nat) : List DV → List DV
 | [] => []
 | c :: cs => c.ren p q s :: rens p q s cs
end
mutual
def DV.top (r b m : Nat) : DV → Bool
 | .row i _ => decide (i < r)
 | .ptr i _ => decide (i < b)
 | .rp i _ _ _ => decide (i < r)
 | .mp i => decide (i < m)
 | .it i => decide (i < m)
 | .cm a b => nameds 0 0 0 a && nameds 0 0 0 b
 | .agg cs => tops r b m cs
 | .tup cs => tops r b m cs
 | .fn _ fs cs => tops r b m fs && tops r b m cs
 | .sl xs => nameds 0 0 0 xs
 | .slt xs => nameds 0 0 0 xs
 | .cp xs => nameds 0 0 0 xs
 | .undef => true
 | .int _ _ => true
 | .bool _ => true
 | .str _ => true
 | .nilp => true
 | .nilfn => true
def tops (r b m : Nat) : List DV → Bool
 | [] => true
 | c :: cs => c.top r b m && tops r b m cs
end
structure Moves (G : Gh) (σ : Store) (p q s : Nat → Nat) (G2 : Gh) (σ2 : Store) (p2 q2 s2 : Nat → Nat) (r b m : Nat) : Prop where
 imm : ∀ k, G.own k = .imm → G2.own k = .imm
 rows : ∀ i, i < r → p2 i < σ2.rows.length ∧ ∀ R2, σ2.rows[p2 i]? = some (some R2) → ∃ R, σ.rows[p i]? = some (some R) ∧ R.xs.length = R2.xs.length ∧ R.st = R2.st ∧ G2.rowV (p2 i) = G.rowV (p i)
 boxes : ∀ i, i < b → q2 i < σ2.boxes.length ∧ G2.boxB (q2 i) = G.boxB (q i)
 maps : ∀ i, i < m → s2 i < σ2.maps.length ∧ G2.mapB (s2 i) = G.mapB (s i)

section
variable {P : Program} {T : TypeId → TI} {w0 : World} {G G2 : Gh} {σ σ2 : Store} {w : World} {r b m : Nat}

theorem RelV.move (hm : Moves G σ id id id G2 σ2 id id id r b m) {d : DV} {v : Value} (h : RelV G σ w d v) (hd : d.named r b m = true) : RelV G2 σ2 w d v := by
 have lst : ∀ {cs : List DV}, nameds r b m cs = true → ∀ (i : Nat) c, cs[i]? = some c → c.named r b m = true := by
  intro cs h i c hc
  exact nameds_iff.1 h c (List.mem_of_getElem? hc)
 induction h with
 | undef v => exact .undef v
 | int k n => exact .int k n
 | bool b => exact .bool b
 | str s => exact .str s
 | agg cs vs hl _ ih => simp only [DV.named] at hd; exact .agg cs vs hl (fun i c v hc hv => ih i c v hc hv (lst hd i c hc))
 | tup cs vs hl _ ih => simp only [DV.named] at hd; exact .tup cs vs hl (fun i c v hc hv => ih i c v hc hv (lst hd i c hc))
 | sl xs A n c st b o vs hn hc hA hst hmm hr ih => simp only [DV.named] at hd; rw [← nameds_flat] at hd; exact .sl xs A n c st b o vs hn hc (hA.imp (fun h => h) (fun h => ⟨h.1, hm.imm _ h.2⟩)) hst hmm (fun i d he => ih i d he (lst hd i d he))
 | slt xs A n st b o vs hn hA hst hmm hr ih => simp only [DV.named] at hd; rw [← nameds_flat] at hd; exact .slt xs A n st b o vs hn (hA.imp (fun h => h) (fun h => ⟨h.1, hm.imm _ h.2⟩)) hst hmm (fun i d he => ih i d he (lst hd i d he))
 | row id len v hid hle h =>
  simp only [DV.named, decide_eq_true_eq] at hd
  obtain ⟨h1, h2⟩ := hm.rows id hd
  exact .row id len v h1 (fun R hR => by obtain ⟨R1, e1, e2, _, _⟩ := h2 R hR; rw [← e2]; exact hle R1 e1) (fun R hR hl => by obtain ⟨R1, e1, e2, _, e4⟩ := h2 R hR; rw [h R1 e1 (by rw [e2]; exact hl)]; exact e4.symm)
 | ptr b' off hb' =>
  simp only [DV.named, decide_eq_true_eq] at hd
  obtain ⟨h1, h2⟩ := hm.boxes b' hd
  simp only [_root_.id] at h1 h2
  rw [← h2]; exact .ptr b' off h1
 | cp cs b o vs him hmm hr ih => simp only [DV.named] at hd; exact .cp cs b o vs (hm.imm _ him) hmm (fun i d he => ih i d he (lst hd i d he))
 | rp id len i off v hid hle h =>
  simp only [DV.named, decide_eq_true_eq] at hd
  obtain ⟨h1, h2⟩ := hm.rows id hd
  exact .rp id len i off v h1 (fun R hR => by obtain ⟨R1, e1, e2, _, _⟩ := h2 R hR; rw [← e2]; exact hle R1 e1) (fun R hR hl => by
   obtain ⟨R1, e1, e2, e3, e4⟩ := h2 R hR
   obtain ⟨g, n, c, k1, k2⟩ := h R1 e1 (by rw [e2]; exact hl)
   exact ⟨g, n, c, by rw [show G2.rowV id = G.rowV id from e4]; exact k1, by rw [← e3]; exact k2⟩)
 | nilp => exact .nilp
 | fn f fs cs us vs hf _ hl _ ihF ih =>
  simp only [DV.named, Bool.and_eq_true] at hd
  exact .fn f fs cs us vs hf (fun i c v hc hv => ihF i c v hc hv (lst hd.1 i c hc)) hl (fun i c v hc hv => ih i c v hc hv (lst hd.2 i c hc))
 | nilfn => exact .nilfn
 | mp id hid =>
  simp only [DV.named, decide_eq_true_eq] at hd
  obtain ⟨h1, h2⟩ := hm.maps id hd
  simp only [_root_.id] at h1 h2
  rw [← h2]; exact .mp id h1
 | it id hid =>
  simp only [DV.named, decide_eq_true_eq] at hd
  obtain ⟨h1, h2⟩ := hm.maps id hd
  simp only [_root_.id] at h1 h2
  rw [← h2]; exact .it id h1
 | cm ks vs k clock es him hh h1 h2 hk hv hb hn ihk ihv =>
  simp only [DV.named, Bool.and_eq_true] at hd
  exact .cm ks vs k clock es (hm.imm _ him) hh h1 h2 (fun i d e he hq => ihk i d e he hq (lst hd.1 i d he)) (fun i d e he hq => ihv i d e he hq (lst hd.2 i d he)) hb hn

theorem Moves.closed {p q s p2 q2 s2 : Nat → Nat} (hm : Moves G σ p q s G2 σ2 p2 q2 s2 r b m) : Moves G σ id id id G2 σ2 id id id 0 0 0 :=
 ⟨hm.imm, fun i h => absurd h (Nat.not_lt_zero i), fun i h => absurd h (Nat.not_lt_zero i), fun i h => absurd h (Nat.not_lt_zero i)⟩

theorem RelL.nil_inv {vs : List Value} (h : RelL G σ w [] vs) : vs = [] := by have := h.1; cases vs with | nil => rfl | cons _ _ => simp at this
theorem RelL.cons_inv {c : DV} {cs : List DV} {vs : List Value} (h : RelL G σ w (c :: cs) vs) : ∃ v us, vs = v :: us ∧ RelV G σ w c v ∧ RelL G σ w cs us := by
 cases vs with
 | nil => have := h.1; simp at this
 | cons v us => exact ⟨v, us, rfl, h.2 0 c v rfl rfl, ⟨by simpa using h.1, fun i d u hd hu => h.2 (i + 1) d u (by simpa using hd) (by simpa using hu)⟩⟩

mutual
theorem RelV.ren {p q s p2 q2 s2 : Nat → Nat} (hm : Moves G σ p q s G2 σ2 p2 q2 s2 r b m) : ∀ (d : DV) (v : Value), d.top r b m = true → RelV G σ w (d.ren p q s) v → RelV G2 σ2 w (d.ren p2 q2 s2) v
 | .row i len, v, hd, h => by
  simp only [DV.top, decide_eq_true_eq] at hd
  simp only [DV.ren] at h ⊢
  obtain ⟨h1, h2⟩ := hm.rows i hd
  cases h with
  | row _ _ _ hid hle h => exact .row _ _ _ h1 (fun R hR => by obtain ⟨R1, e1, e2, _, _⟩ := h2 R hR; rw [← e2]; exact hle R1 e1) (fun R hR hl => by obtain ⟨R1, e1, e2, _, e4⟩ := h2 R hR; rw [h R1 e1 (by rw [e2]; exact hl)]; exact e4.symm)
 | .rp i len j off, v, hd, h => by
  simp only [DV.top, decide_eq_true_eq] at hd
  simp only [DV.ren] at h ⊢
  obtain ⟨h1, h2⟩ := hm.rows i hd
  cases h with
  | rp _ _ _ _ _ hid hle h =>
   exact .rp _ _ _ _ _ h1 (fun R hR => by obtain ⟨R1, e1, e2, _, _⟩ := h2 R hR; rw [← e2]; exact hle R1 e1) (fun R hR hl => by
    obtain ⟨R1, e1, e2, e3, e4⟩ := h2 R hR
    obtain ⟨g, n, c, k1, k2⟩ := h R1 e1 (by rw [e2]; exact hl)
    exact ⟨g, n, c, by rw [e4]; exact k1, by rw [← e3]; exact k2⟩)
 | .ptr i off, v, hd, h => by
  simp only [DV.top, decide_eq_true_eq] at hd
  simp only [DV.ren] at h ⊢
  obtain ⟨h1, h2⟩ := hm.boxes i hd
  cases h with
  | ptr _ _ hb => rw [← h2]; exact .ptr _ _ h1
 | .mp i, v, hd, h => by
  simp only [DV.top, decide_eq_true_eq] at hd
  simp only [DV.ren] at h ⊢
  obtain ⟨h1, h2⟩ := hm.maps i hd
  cases h with
  | mp _ hb => rw [← h2]; exact .mp _ h1
 | .it i, v, hd, h => by
  simp only [DV.top, decide_eq_true_eq] at hd
  simp only [DV.ren] at h ⊢
  obtain ⟨h1, h2⟩ := hm.maps i hd
  cases h with
  | it _ hb => rw [← h2]; exact .it _ h1
 | .cm a b, v, hd, h => by simp only [DV.ren] at h ⊢; exact h.move hm.closed (by simpa only [DV.top, DV.named] using hd)
 | .agg cs, v, hd, h => by
  simp only [DV.top] at hd
  simp only [DV.ren] at h ⊢
  cases h with
  | agg _ vs hl h => have := RelL.ren hm cs vs hd ⟨hl, h⟩; exact .agg _ _ this.1 this.2
 | .tup cs, v, hd, h => by
  simp only [DV.top] at hd
  simp only [DV.ren] at h ⊢
  cases h with
  | tup _ vs hl h => have := RelL.ren hm cs vs hd ⟨hl, h⟩; exact .tup _ _ this.1 this.2
 | .fn f fs cs, v, hd, h => by
  simp only [DV.top, Bool.and_eq_true] at hd
  simp only [DV.ren] at h ⊢
  cases h with
  | fn _ _ _ us vs h1 h2 h3 h4 =>
   have k1 := RelL.ren hm fs us hd.1 ⟨h1, h2⟩
   have k2 := RelL.ren hm cs vs hd.2 ⟨h3, h4⟩
   exact .fn _ _ _ _ _ k1.1 k1.2 k2.1 k2.2
 | .sl xs, v, hd, h => by simp only [DV.ren] at h ⊢; exact h.move hm.closed (by simpa only [DV.top, DV.named] using hd)
 | .slt xs, v, hd, h => by simp only [DV.ren] at h ⊢; exact h.move hm.closed (by simpa only [DV.top, DV.named] using hd)
 | .cp xs, v, hd, h => by simp only [DV.ren] at h ⊢; exact h.move hm.closed (by simpa only [DV.top, DV.named] using hd)
 | .undef, v, _, _ => .undef v
 | .int _ _, v, _, h => by simp only [DV.ren] at h ⊢; cases h; exact .int _ _
 | .bool _, v, _, h => by simp only [DV.ren] at h ⊢; cases h; exact .bool _
 | .str _, v, _, h => by simp only [DV.ren] at h ⊢; cases h; exact .str _
 | .nilp, v, _, h => by simp only [DV.ren] at h ⊢; cases h; exact .nilp
 | .nilfn, v, _, h => by simp only [DV.ren] at h ⊢; cases h; exact .nilfn
theorem RelL.ren {p q s p2 q2 s2 : Nat → Nat} (hm : Moves G σ p q s G2 σ2 p2 q2 s2 r b m) : ∀ (cs : List DV) (vs : List Value), tops r b m cs = true → RelL G σ w (rens p q s cs) vs → RelL G2 σ2 w (rens p2 q2 s2 cs) vs
 | [], vs, _, h => by simp only [rens] at h ⊢; rw [h.nil_inv]; exact .nil
 | c :: cs, vs, hd, h => by
  simp only [tops, Bool.and_eq_true] at hd
  simp only [rens] at h ⊢
  obtain ⟨v, us, rfl, h1, h2⟩ := h.cons_inv
  exact .cons (RelV.ren hm c v hd.1 h1) (RelL.ren hm cs us hd.2 h2)
end
theorem RelL.move (hm : Moves G σ id id id G2 σ2 id id id r b m) {cs : List DV} {vs : List Value} (h : RelL G σ w cs vs) (hd : nameds r b m cs = true) : RelL G2 σ2 w cs vs :=
 ⟨h.1, fun i c v hc hv => (h.2 i c v hc hv).move hm (nameds_iff.1 hd c (List.mem_of_getElem? hc))⟩

structure Kept (n : Nat) (k : Nat) (l : List Nat) : Prop where
 len : l.length = k
 nd : l.Nodup
 ge : ∀ i ∈ l, n ≤ i
def oldN (n : Nat) (l : List Nat) (j : Nat) : Nat := if j < n then j else l.getD (j - n) 0
def newN (n : Nat) (l : List Nat) (i : Nat) : Option Nat := if i < n then some i else if i ∈ l then some (n + l.idxOf i) else none
theorem newN_old {n : Nat} {l : List Nat} (hge : ∀ i ∈ l, n ≤ i) (hnd : l.Nodup) {j : Nat} (hj : j < n + l.length) : newN n l (oldN n l j) = some j := by
 by_cases h : j < n
 ·unfold oldN newN; rw [if_pos h, if_pos h]
 ·unfold oldN newN
  rw [if_neg h]
  have hlt : j - n < l.length := by omega
  have hx : l.getD (j - n) 0 = l[j - n] := by rw [List.getD_eq_getElem?_getD, List.getElem?_eq_getElem hlt]; rfl
  have hm : l[j - n] ∈ l := List.getElem_mem hlt
  rw [hx, if_neg (by have := hge _ hm; omega), if_pos hm, hnd.idxOf_getElem]
  congr 1; omega
def newO (n : Nat) (l : List Nat) (mk : Nat → Owner) (i : Nat) : Owner := match newN n l i with | some j => mk j | none => .free
def reO (nr : Nat) (kr : List Nat) (nb : Nat) (kb : List Nat) (nm : Nat) (km : List Nat) : Owner → Owner
 | .row i => newO nr kr .row i
 | .box i => newO nb kb .box i
 | .map i => newO nm km .map i
 | .imm => .imm
 | .dfr n => .dfr n
 | .free => .free

def RX (σ τ : Store) (d : DV) (rs : List Row) (bs : List Box) (ms : List (List (DV × DV))) : DV → Store → Prop := fun r σ' =>
 ∃ kr kb km, Kept σ.rows.length rs.length kr ∧ Kept σ.boxes.length bs.length kb ∧ Kept σ.maps.length ms.length km ∧
  r = d.ren (kr.getD · 0) (kb.getD · 0) (km.getD · 0) ∧
  (∀ j R, rs[j]? = some R → σ'.rows[kr.getD j 0]? = some (some R)) ∧ (∀ j B, bs[j]? = some B → σ'.boxes[kb.getD j 0]? = some (some B)) ∧ (∀ j M, ms[j]? = some M → σ'.maps[km.getD j 0]? = some (some M)) ∧ Grew τ σ'
def Store.plus (τ : Store) (rs : List Row) (bs : List Box) (ms : List (List (DV × DV))) : Store := ⟨τ.rows ++ rs.map some, τ.boxes ++ bs.map some, τ.maps ++ ms.map some⟩
structure Wrote (σ τ : Store) : Prop where
 rl : τ.rows.length = σ.rows.length
 bl : τ.boxes.length = σ.boxes.length
 ml : τ.maps.length = σ.maps.length
 rows : ∀ (i : Nat) R, τ.rows[i]? = some (some R) → σ.rows[i]? = some (some R) ∨ nameds σ.rows.length σ.boxes.length σ.maps.length R.xs = true
 boxes : ∀ (i : Nat) B, τ.boxes[i]? = some (some B) → ∀ c ∈ B.cs, c.named 0 0 0 = true ∨ ∃ (i0 : Nat) (B0 : Box), σ.boxes[i0]? = some (some B0) ∧ c ∈ B0.cs
 maps : ∀ (i : Nat) M, τ.maps[i]? = some (some M) → σ.maps[i]? = some (some M) ∨ ∀ p ∈ M, p.1.named σ.rows.length σ.boxes.length σ.maps.length = true ∧ p.2.named σ.rows.length σ.boxes.length σ.maps.length = true
theorem Wrote.refl (σ : Store) : Wrote σ σ := ⟨rfl, rfl, rfl, fun _ _ h => .inl h, fun i B h c hc => .inr ⟨i, B, h, hc⟩, fun _ _ h => .inl h⟩

theorem plus_get {α : Type} {A : List (Option α)} {rs : List α} {j : Nat} {R : α} (h : (A ++ rs.map some)[j]? = some (some R)) :
  (j < A.length ∧ A[j]? = some (some R)) ∨ (A.length ≤ j ∧ rs[j - A.length]? = some R) := by
 rcases Nat.lt_or_ge j A.length with hj | hj
 ·rw [List.getElem?_append_left hj] at h; exact .inl ⟨hj, h⟩
 ·rw [List.getElem?_append_right hj, List.getElem?_map] at h
  refine .inr ⟨hj, ?_⟩
  cases hq : rs[j - A.length]? with
  | none => rw [hq] at h; simp at h
  | some x => rw [hq] at h; simpa using h
theorem oldN_lt {n : Nat} {l : List Nat} {j : Nat} (h : j < n) : oldN n l j = j := by unfold oldN; rw [if_pos h]
theorem oldN_ge {n : Nat} {l : List Nat} (j : Nat) : oldN n l (n + j) = l.getD j 0 := by unfold oldN; rw [if_neg (by omega), Nat.add_sub_cancel_left]

theorem Does.fx {f : FuncId} {args : List DV} {τ : Store} {d : DV} {rs : List Row} {bs : List Box} {ms : List (List (DV × DV))}
  (hd : d.top rs.length bs.length ms.length = true) (hrs : ∀ R ∈ rs, nameds 0 0 0 R.xs = true) (hbs : ∀ B ∈ bs, nameds 0 0 0 B.cs = true) (hms : ∀ M ∈ ms, ∀ p ∈ M, p.1.named 0 0 0 = true ∧ p.2.named 0 0 0 = true)
  (hτ : Wrote σ τ) (h : Does P f args σ (RX σ τ d rs bs ms)) :
  Does P f args σ (one (d.ren (σ.rows.length + ·) (σ.boxes.length + ·) (σ.maps.length + ·)) (τ.plus rs bs ms)) := by
 intro w0 G vs w hS hr
 refine (h w0 G vs w hS hr).mono ?_
 rintro ed w' ⟨v, r, σ', G', he, ⟨kr, kb, km, Kr, Kb, Km, hrd, gr, gb, gm, hg⟩, hS', hE, hv⟩
 obtain ⟨lr, nr, er⟩ := Kr
 obtain ⟨lb, nb, eb⟩ := Kb
 obtain ⟨lm, nm, em⟩ := Km
 subst hrd
 obtain ⟨⟨ra, hra⟩, ⟨ba, hba⟩, ⟨ma, hma⟩⟩ := hg
 have hns := hS.names
 let G2 : Gh := { own := fun k => reO σ.rows.length kr σ.boxes.length kb σ.maps.length km (G'.own k), rowV := fun j => G'.rowV (oldN σ.rows.length kr j), boxB := fun j => G'.boxB (oldN σ.boxes.length kb j), mapB := fun j => G'.mapB (oldN σ.maps.length km j) }
 have hown : ∀ k, G2.own k = reO σ.rows.length kr σ.boxes.length kb σ.maps.length km (G'.own k) := fun _ => rfl
 have himm : ∀ k, G'.own k = .imm → G2.own k = .imm := fun k hk => by rw [hown, hk]; rfl
 have hfree : ∀ k, G2.own k ≠ .free → G'.own k ≠ .free := fun k hk hf => hk (by rw [hown, hf]; rfl)
 have himm2 : ∀ k, G2.own k ≠ .imm → G'.own k ≠ .imm := fun k hk hf => hk (himm k hf)
 -- the old thing of each new number
 have oR : ∀ (j : Nat) (R : Row), (τ.plus rs bs ms).rows[j]? = some (some R) → σ'.rows[oldN σ.rows.length kr j]? = some (some R) ∧ j < σ.rows.length + kr.length := by
  intro j R hj
  rcases plus_get hj with ⟨h1, h2⟩ | ⟨h1, h2⟩
  ·rw [hτ.rl] at h1
   rw [oldN_lt h1, hra, List.getElem?_append_left (by rw [hτ.rl]; exact h1)]
   exact ⟨h2, by omega⟩
  ·rw [hτ.rl] at h1 h2
   have := gr _ _ h2
   rw [show j = σ.rows.length + (j - σ.rows.length) by omega, oldN_ge]
   exact ⟨this, by have := (List.getElem?_eq_some_iff.1 h2).1; omega⟩
 have oB : ∀ (j : Nat) (R : Box), (τ.plus rs bs ms).boxes[j]? = some (some R) → σ'.boxes[oldN σ.boxes.length kb j]? = some (some R) ∧ j < σ.boxes.length + kb.length := by
  intro j R hj
  rcases plus_get hj with ⟨h1, h2⟩ | ⟨h1, h2⟩
  ·rw [hτ.bl] at h1
   rw [oldN_lt h1, hba, List.getElem?_append_left (by rw [hτ.bl]; exact h1)]
   exact ⟨h2, by omega⟩
  ·rw [hτ.bl] at h1 h2
   have := gb _ _ h2
   rw [show j = σ.boxes.length + (j - σ.boxes.length) by omega, oldN_ge]
   exact ⟨this, by have := (List.getElem?_eq_some_iff.1 h2).1; omega⟩
 have oM : ∀ (j : Nat) (R : List (DV × DV)), (τ.plus rs bs ms).maps[j]? = some (some R) → σ'.maps[oldN σ.maps.length km j]? = some (some R) ∧ j < σ.maps.length + km.length := by
  intro j R hj
  rcases plus_get hj with ⟨h1, h2⟩ | ⟨h1, h2⟩
  ·rw [hτ.ml] at h1
   rw [oldN_lt h1, hma, List.getElem?_append_left (by rw [hτ.ml]; exact h1)]
   exact ⟨h2, by omega⟩
  ·rw [hτ.ml] at h1 h2
   have := gm _ _ h2
   rw [show j = σ.maps.length + (j - σ.maps.length) by omega, oldN_ge]
   exact ⟨this, by have := (List.getElem?_eq_some_iff.1 h2).1; omega⟩
 -- what was there moves as it is
 have mv : Moves G' σ' id id id G2 (τ.plus rs bs ms) id id id σ.rows.length σ.boxes.length σ.maps.length := by
  refine ⟨himm, fun i hi => ⟨by simp only [Store.plus, _root_.id, List.length_append, hτ.rl]; omega, fun R2 hR2 => ?_⟩, fun i hi => ⟨by simp only [Store.plus, _root_.id, List.length_append, hτ.bl]; omega, ?_⟩, fun i hi => ⟨by simp only [Store.plus, _root_.id, List.length_append, hτ.ml]; omega, ?_⟩⟩
  ·have := (oR _ _ hR2).1
   simp only [_root_.id] at this ⊢
   rw [oldN_lt hi] at this
   exact ⟨R2, this, rfl, rfl, by show G'.rowV _ = _; rw [oldN_lt hi]⟩
  ·show G'.boxB _ = _; simp only [_root_.id]; rw [oldN_lt hi]
  ·show G'.mapB _ = _; simp only [_root_.id]; rw [oldN_lt hi]
 have mvd : Moves G' σ' (kr.getD · 0) (kb.getD · 0) (km.getD · 0) G2 (τ.plus rs bs ms) (σ.rows.length + ·) (σ.boxes.length + ·) (σ.maps.length + ·) rs.length bs.length ms.length := by
  refine ⟨himm, fun i hi => ⟨by simp only [Store.plus, List.length_append, List.length_map, hτ.rl]; omega, fun R2 hR2 => ?_⟩, fun i hi => ⟨by simp only [Store.plus, List.length_append, List.length_map, hτ.bl]; omega, ?_⟩, fun i hi => ⟨by simp only [Store.plus, List.length_append, List.length_map, hτ.ml]; omega, ?_⟩⟩
  ·have := (oR _ _ hR2).1
   rw [oldN_ge] at this
   exact ⟨R2, this, rfl, rfl, by show G'.rowV _ = _; rw [oldN_ge]⟩
  ·show G'.boxB _ = _; rw [oldN_ge]
  ·show G'.mapB _ = _; rw [oldN_ge]
 have cn : ∀ {xs : List DV}, nameds 0 0 0 xs = true → nameds σ.rows.length σ.boxes.length σ.maps.length xs = true := fun h => nameds_mono (Nat.zero_le _) (Nat.zero_le _) (Nat.zero_le _) _ h
 have cn1 : ∀ {x : DV}, x.named 0 0 0 = true → x.named σ.rows.length σ.boxes.length σ.maps.length = true := fun h => named_mono (Nat.zero_le _) (Nat.zero_le _) (Nat.zero_le _) _ h
 have nR : ∀ (j : Nat) (R : Row), (τ.plus rs bs ms).rows[j]? = some (some R) → nameds σ.rows.length σ.boxes.length σ.maps.length R.xs = true := by
  intro j R hj
  rcases plus_get hj with ⟨h1, h2⟩ | ⟨h1, h2⟩
  ·rcases hτ.rows j R h2 with h3 | h3
   ·exact hns.rows j R h3
   ·exact h3
  ·exact cn (hrs R (List.mem_of_getElem? h2))
 have nB : ∀ (j : Nat) (B : Box), (τ.plus rs bs ms).boxes[j]? = some (some B) → nameds σ.rows.length σ.boxes.length σ.maps.length B.cs = true := by
  intro j R hj
  rcases plus_get hj with ⟨h1, h2⟩ | ⟨h1, h2⟩
  ·rw [nameds_iff]
   intro c hc
   rcases hτ.boxes j R h2 c hc with h3 | ⟨i0, B0, h3, h4⟩
   ·exact cn1 h3
   ·exact nameds_iff.1 (hns.boxes i0 B0 h3) c h4
  ·exact cn (hbs R (List.mem_of_getElem? h2))
 have nM : ∀ (j : Nat) (M : List (DV × DV)), (τ.plus rs bs ms).maps[j]? = some (some M) → ∀ p ∈ M, p.1.named σ.rows.length σ.boxes.length σ.maps.length = true ∧ p.2.named σ.rows.length σ.boxes.length σ.maps.length = true := by
  intro j R hj
  rcases plus_get hj with ⟨h1, h2⟩ | ⟨h1, h2⟩
  ·rcases hτ.maps j R h2 with h3 | h3
   ·exact hns.maps j R h3
   ·exact h3
  ·exact fun p hp => ⟨cn1 (hms R (List.mem_of_getElem? h2) p hp).1, cn1 (hms R (List.mem_of_getElem? h2) p hp).2⟩
 refine ⟨v, _, _, G2, he, ⟨rfl, rfl⟩, ⟨hS'.below, fun k hk => hS'.lt k (hfree k hk), fun k hk hi => hS'.trk k (hfree k hk) (himm2 k hi), fun j R hj => ?_, fun j B hj => ?_, fun j M hj => ?_⟩, ?_, ?_⟩
 ·obtain ⟨h1, h2⟩ := oR j R hj
  have hn := nR j R hj
  obtain ⟨h0, hall, A, n, c, hA, hn', hc, hr2⟩ := hS'.rows _ _ h1
  refine ⟨h0, hall, A, n, c, hA, hn', hc, hr2.imp (fun h => h) (fun ⟨g, arr, fr, a1, a2, a3, a4, a5, a6⟩ => ⟨g, arr, fr, a1, ?_, a3, a4, a5, fun i d u hd hu => (a6 i d u hd hu).move mv ?_⟩)⟩
  ·rw [hown, a2]; simp only [reO, newO, newN_old er nr h2]
  ·rw [← nameds_flat] at hn; exact nameds_iff.1 hn d (List.mem_of_getElem? hd)
 ·obtain ⟨h1, h2⟩ := oB j B hj
  obtain ⟨a0, arr, a1, a2⟩ := hS'.boxes _ _ h1
  refine ⟨?_, arr, a1, a2.move mv (nB j B hj)⟩
  show G2.own (G'.boxB _) = _
  rw [hown, a0]; simp only [reO, newO, newN_old eb nb h2]
 ·obtain ⟨h1, h2⟩ := oM j M hj
  have hn := nM j M hj
  obtain ⟨a0, a⟩ := hS'.maps _ _ h1
  refine ⟨?_, a.imp ?_ ?_⟩
  ·show G2.own (G'.mapB _) = _
   rw [hown, a0]; simp only [reO, newO, newN_old em nm h2]
  ·rintro ⟨g0, es, clock, a1, a2, a3, a4⟩
   exact ⟨g0, es, clock, a1, a2, fun i e p he hp => ⟨(a3 i e p he hp).1.move mv (hn p (List.mem_of_getElem? hp)).1, (a3 i e p he hp).2.move mv (hn p (List.mem_of_getElem? hp)).2⟩, a4⟩
  ·rintro ⟨ks, vs, is, k, es, clock, since, last, seen, h1, h2, h3⟩
   exact ⟨ks, vs, is, k, es, clock, since, last, seen, h1, h2.move mv (hn (.nilfn, .cm ks vs) (by rw [h1]; simp [iterL])).2, h3⟩
 ·refine ⟨fun k hk => ⟨himm k (hE.imm k hk).1, (hE.imm k hk).2⟩, by simp only [Store.plus, List.length_append, hτ.rl]; omega, by simp only [Store.plus, List.length_append, hτ.bl]; omega, by simp only [Store.plus, List.length_append, hτ.ml]; omega, fun id R' hid hR' => ?_, fun i hi => ?_, fun i hi => ?_, fun k hk => ⟨by rw [hown, (hE.dfr k hk).1]; rfl, (hE.dfr k hk).2⟩⟩
  ·have := (oR _ _ hR').1
   rw [oldN_lt hid] at this
   obtain ⟨R, b1, b2, b3, b4⟩ := hE.rowV id R' hid this
   exact ⟨R, b1, b2, b3, fun hl => by show G'.rowV _ = _; rw [oldN_lt hid]; exact b4 hl⟩
  ·show G'.boxB _ = _; rw [oldN_lt hi]; exact hE.boxB i hi
  ·show G'.mapB _ = _; rw [oldN_lt hi]; exact hE.mapB i hi
 ·exact RelV.ren mvd d v hd hv
end
end Go.Val
end

section
namespace Go.Val
open Go.RowKit
set_option linter.unusedSimpArgs false
set_option linter.unusedVariables false

class ConT (P : Program) (f : FuncId) (args : List DV) (C : outParam Prop) (d : outParam DV) (rs : outParam (List Row)) (bs : outParam (List Box)) (ms : outParam (List (List (DV × DV)))) : Prop where
 ok : C → ∀ σ : Store, Does P f args σ (one (d.ren (σ.rows.length + ·) (σ.boxes.length + ·) (σ.maps.length + ·)) (σ.plus rs bs ms))
class ConP (P : Program) (f : FuncId) (args : List DV) (ty : TypeId) (cs : List DV) (C : outParam Prop) (d : outParam DV) (cs' : outParam (List DV)) (rs : outParam (List Row)) (bs : outParam (List Box)) (ms : outParam (List (List (DV × DV)))) : Prop where
 ok : C → ∀ (σ : Store) (b : Nat), σ.boxes[b]? = some (some ⟨ty, cs⟩) → Does P f (.ptr b 0 :: args) σ (one (d.ren (σ.rows.length + ·) (σ.boxes.length + ·) (σ.maps.length + ·)) ((⟨σ.rows, σ.boxes.set b (some ⟨ty, cs'⟩), σ.maps⟩ : Store).plus rs bs ms))

section
variable {P : Program} {T : TypeId → TI} {dsts : List (Option Tmp)} {l rest : List Oper} {slots slots' : List DV} {σ σ' : Store} {Q : Exit → St → Prop} {dst : Option Tmp}

theorem W_conT {f : FuncId} {args : List DV} {C : Prop} {d : DV} {rs : List Row} {bs : List Box} {ms : List (List (DV × DV))} [hi : ConT P f args C d rs bs ms] (k : EvD P dsts rest slots' σ' Q) (hc : C)
  (hs : putS slots dst (d.ren (σ.rows.length + ·) (σ.boxes.length + ·) (σ.maps.length + ·)) = slots' := by simp only [go_sem, DV.ren, rens, Nat.add_zero]; exact rfl)
  (hσ : σ.plus rs bs ms = σ' := by simp only [Store.plus, List.map_cons, List.map_nil, List.append_nil, List.append_assoc, List.cons_append, List.nil_append]; exact rfl) : EvC P f args dst dsts rest slots σ Q :=
 W_does (hi.ok hc σ) (hσ ▸ k) hs
def EvB (P : Program) (f : FuncId) (args : List DV) (b : Nat) (ty : TypeId) (cs : List DV) (t : Option Tmp) (dsts : List (Option Tmp)) (rest : List Oper) (slots : List DV) (σ : Store) (Q : Exit → St → Prop) : Prop :=
 σ.boxes[b]? = some (some ⟨ty, cs⟩) → EvC P f (.ptr b 0 :: args) t dsts rest slots σ Q
theorem W_box {f : FuncId} {args : List DV} {b : Nat} {ty : TypeId} {cs : List DV} (k : EvB P f args b ty cs dst dsts rest slots σ Q)
  (hB : σ.boxes[b]? = some (some ⟨ty, cs⟩) := by first | assumption | ((try simp only [app_get, app_get0, List.getElem?_cons_succ, List.getElem?_cons_zero]) <;> exact rfl)) : EvC P f (.ptr b 0 :: args) dst dsts rest slots σ Q := k hB
theorem W_conP {f : FuncId} {args : List DV} {b : Nat} {ty : TypeId} {cs : List DV} {C : Prop} {d : DV} {cs' : List DV} {rs : List Row} {bs : List Box} {ms : List (List (DV × DV))}
  [hi : ConP P f args ty cs C d cs' rs bs ms] (k : EvD P dsts rest slots' σ' Q) (hc : C)
  (hs : putS slots dst (d.ren (σ.rows.length + ·) (σ.boxes.length + ·) (σ.maps.length + ·)) = slots' := by simp only [go_sem, DV.ren, rens, Nat.add_zero]; exact rfl)
  (hσ : (⟨σ.rows, σ.boxes.set b (some ⟨ty, cs'⟩), σ.maps⟩ : Store).plus rs bs ms = σ' := by simp only [Store.plus, app_set, app_set0, List.set_cons_succ, List.set_cons_zero, List.map_cons, List.map_nil, List.append_nil, List.append_assoc, List.cons_append, List.nil_append]; exact rfl) :
  EvB P f args b ty cs dst dsts rest slots σ Q := by
 intro hB
 exact W_does (hi.ok hc σ b hB) (hσ ▸ k) hs

/-! ### bodies -/
theorem FxT.go (hT : TOK P T) {f : FuncId} {fn : Func} {c : Code} {args : List DV} {d : DV} {rs : List Row} {bs : List Box} {ms : List (List (DV × DV))} {rv : List ResultVar} {n : Nat} (slots : List DV) (hf : P.funcs[f]? = some fn)
  (h : ∀ σ : Store, Ev P c ⟨slots, σ⟩ (RetQ T rv (RX σ σ d rs bs ms))) (hb : fn.body = some c := by rfl) (hn : fn.ntmps = n := by rfl) (hr : fn.results.toList = rv := by exact rfl)
  (hs : args ++ List.replicate (n - args.length) .undef = slots := by rfl)
  (hd : d.top rs.length bs.length ms.length = true := by first | rfl | (simp [DV.top, tops, nameds, DV.named, bytes_named, go_sem]; done))
  (hrs : ∀ R ∈ rs, nameds 0 0 0 R.xs = true := by first | (simp [nameds, DV.named, bytes_named, go_sem]; done) | skip)
  (hbs : ∀ B ∈ bs, nameds 0 0 0 B.cs = true := by first | (simp [nameds, DV.named, bytes_named, go_sem]; done) | skip)
  (hms : ∀ M ∈ ms, ∀ p ∈ M, p.1.named 0 0 0 = true ∧ p.2.named 0 0 0 = true := by first | (simp [nameds, DV.named, bytes_named, go_sem]; done) | skip) :
  ∀ σ : Store, Does P f args σ (one (d.ren (σ.rows.length + ·) (σ.boxes.length + ·) (σ.maps.length + ·)) (σ.plus rs bs ms)) :=
 fun σ => Does.fx hd hrs hbs hms (Wrote.refl σ) (Does_body hT hf hb (by rw [hn, hs, hr]; exact h σ))
theorem FxP.go (hT : TOK P T) {f : FuncId} {fn : Func} {c : Code} {args : List DV} {ty : TypeId} {cs cs' : List DV} {d : DV} {rs : List Row} {bs : List Box} {ms : List (List (DV × DV))} {rv : List ResultVar} {n : Nat} (slots : Nat → List DV) (hf : P.funcs[f]? = some fn)
  (h : ∀ (σ : Store) (b : Nat), b < σ.boxes.length → σ.boxes[b]? = some (some ⟨ty, cs⟩) → Ev P c ⟨slots b, σ⟩ (RetQ T rv (RX σ ⟨σ.rows, σ.boxes.set b (some ⟨ty, cs'⟩), σ.maps⟩ d rs bs ms))) (hb : fn.body = some c := by rfl) (hn : fn.ntmps = n := by rfl) (hr : fn.results.toList = rv := by exact rfl)
  (hs : ∀ b, (.ptr b 0 :: args) ++ List.replicate (n - (args.length + 1)) .undef = slots b := by intro b; rfl)
  (hcs : ∀ c ∈ cs', c.named 0 0 0 = true ∨ c ∈ cs := by (repeat (refine List.forall_mem_cons.2 ⟨by first | (left; rfl) | (right; simp; done) | (left; simp [DV.named, nameds, bytes_named]; done), ?_⟩)); exact fun _ h => nomatch h)
  (hd : d.top rs.length bs.length ms.length = true := by first | rfl | (simp [DV.top, tops, nameds, DV.named, bytes_named, go_sem]; done))
  (hrs : ∀ R ∈ rs, nameds 0 0 0 R.xs = true := by first | (simp [nameds, DV.named, bytes_named, go_sem]; done) | skip)
  (hbs : ∀ B ∈ bs, nameds 0 0 0 B.cs = true := by first | (simp [nameds, DV.named, bytes_named, go_sem]; done) | skip)
  (hms : ∀ M ∈ ms, ∀ p ∈ M, p.1.named 0 0 0 = true ∧ p.2.named 0 0 0 = true := by first | (simp [nameds, DV.named, bytes_named, go_sem]; done) | skip) :
  ∀ (σ : Store) (b : Nat), σ.boxes[b]? = some (some ⟨ty, cs⟩) → Does P f (.ptr b 0 :: args) σ (one (d.ren (σ.rows.length + ·) (σ.boxes.length + ·) (σ.maps.length + ·)) ((⟨σ.rows, σ.boxes.set b (some ⟨ty, cs'⟩), σ.maps⟩ : Store).plus rs bs ms)) := by
 intro σ b hB
 have hlt := (List.getElem?_eq_some_iff.1 hB).1
 refine Does.fx hd hrs hbs hms ⟨rfl, by simp, rfl, fun _ _ h => .inl h, fun i B hi c hc => ?_, fun _ _ h => .inl h⟩ (Does_body hT (args := .ptr b 0 :: args) hf hb (by rw [hn, hr]; have := hs b; simp only [List.length_cons]; rw [this]; exact h σ b hlt hB))
 by_cases hib : b = i
 ·subst hib
  simp only at hi
  rw [List.getElem?_set_self hlt] at hi
  simp only [Option.some.injEq] at hi
  subst hi
  rcases hcs c hc with h1 | h1
  ·exact .inl h1
  ·exact .inr ⟨b, _, hB, h1⟩
 ·simp only at hi
  rw [List.getElem?_set_ne hib] at hi
  exact .inr ⟨i, B, hi, hc⟩

/-! ### returning -/
theorem kept0 (n : Nat) : Kept n 0 [] := ⟨rfl, List.nodup_nil, by simp⟩
theorem kept1 {n i : Nat} (h : n ≤ i) : Kept n 1 [i] := ⟨rfl, by simp, by simpa using h⟩
variable {rv : List ResultVar} {C : Prop} {d r : DV} {σ0 τ : Store}
theorem R_x0 (hx : r = d) (hc : C) (h : resD T ⟨slots, σ⟩ rv = some (C, r) := by simp (disch := omega) only [go_sem, resD, resDs, resD1]; exact rfl)
  (hd : ∀ p q s, d.ren p q s = d := by intro p q s; simp only [DV.ren, rens])
  (hg : Grew τ σ := by exact ⟨by first | exact ⟨[], (List.append_nil _).symm⟩ | exact ⟨_, rfl⟩, by first | exact ⟨[], (List.append_nil _).symm⟩ | exact ⟨_, rfl⟩, by first | exact ⟨[], (List.append_nil _).symm⟩ | exact ⟨_, rfl⟩⟩) :
  RetQ T rv (RX σ0 τ d [] [] []) .ret ⟨slots, σ⟩ :=
 ⟨C, r, h, hc, [], [], [], kept0 _, kept0 _, kept0 _, by rw [hd]; exact hx, by simp, by simp, by simp, hg⟩
theorem R_p0 {b : Nat} {ty : TypeId} {cs cs' : List DV} (hx : r = d) (hcs : cs = cs') (hc : C) (h : resD T ⟨slots, σ⟩ rv = some (C, r) := by simp (disch := omega) only [go_sem, resD, resDs, resD1]; exact rfl)
  (hd : ∀ p q s, d.ren p q s = d := by intro p q s; simp only [DV.ren, rens])
  (hg : Grew ⟨σ0.rows, σ0.boxes.set b (some ⟨ty, cs⟩), σ0.maps⟩ σ := by exact ⟨by first | exact ⟨[], (List.append_nil _).symm⟩ | exact ⟨_, rfl⟩, by first | exact ⟨[], (List.append_nil _).symm⟩ | exact ⟨_, rfl⟩, by first | exact ⟨[], (List.append_nil _).symm⟩ | exact ⟨_, rfl⟩⟩) :
  RetQ T rv (RX σ0 ⟨σ0.rows, σ0.boxes.set b (some ⟨ty, cs'⟩), σ0.maps⟩ d [] [] []) .ret ⟨slots, σ⟩ := by
 subst hcs; exact R_x0 hx hc h hd hg
theorem R_xr {xs ys : List DV} {e : TypeId} {st k : Nat} (hx : ys = xs) (hd : ∀ p q s, p 0 = k → d.ren p q s = r) (hc : C) (h : resD T ⟨slots, σ⟩ rv = some (C, r) := by simp (disch := omega) only [go_sem, resD, resDs, resD1]; exact rfl)
  (hR : σ.rows[k]? = some (some ⟨ys, e, st⟩) := by (try simp only [app_get, app_get0, List.getElem?_cons_succ, List.getElem?_cons_zero]) <;> exact rfl)
  (hn : σ0.rows.length ≤ k := by omega)
  (hg : Grew τ σ := by exact ⟨by first | exact ⟨[], (List.append_nil _).symm⟩ | exact ⟨_, rfl⟩, by first | exact ⟨[], (List.append_nil _).symm⟩ | exact ⟨_, rfl⟩, by first | exact ⟨[], (List.append_nil _).symm⟩ | exact ⟨_, rfl⟩⟩) :
  RetQ T rv (RX σ0 τ d [⟨xs, e, st⟩] [] []) .ret ⟨slots, σ⟩ := by
 subst hx
 refine ⟨C, r, h, hc, [k], [], [], kept1 hn, kept0 _, kept0 _, (hd _ _ _ rfl).symm, fun j R hj => ?_, by simp, by simp, hg⟩
 cases j with
 | zero => simp only [List.getElem?_cons_zero, Option.some.injEq] at hj; subst hj; exact hR
 | succ j => simp at hj
end
attribute [go_sem] DV.ren rens
end Go.Val
end

section
namespace Go.Val
open Go.RowKit
set_option linter.unusedSimpArgs false
set_option linter.unusedVariables false

class PredC (P : Program) (g : FuncId) (fs cs : List DV) (dom : outParam (DV → Prop)) (p : outParam (DV → Bool)) : Prop where
 fn : FnAt P g
 ok : ∀ x, dom x → Pure P g (fs ++ [x] ++ cs) (.bool (p x))
 nm : nameds 0 0 0 fs = true ∧ nameds 0 0 0 cs = true
theorem PredC.of {P : Program} {g : FuncId} {fs cs : List DV} {dom : DV → Prop} {p : DV → Bool} (fn : FnAt P g) (ok : ∀ x, dom x → Pure P g (fs ++ [x] ++ cs) (.bool (p x))) (nm : nameds 0 0 0 fs = true ∧ nameds 0 0 0 cs = true := by first | exact ⟨rfl, rfl⟩ | (simp [nameds, DV.named, bytes_named, go_sem]; done)) : PredC P g fs cs dom p := ⟨fn, ok, nm⟩
theorem PredC.nmf {P : Program} {g : FuncId} {fs cs : List DV} {dom : DV → Prop} {p : DV → Bool} (h : PredC P g fs cs dom p) (r b m : Nat) : nameds r b m fs = true ∧ nameds r b m cs = true := ⟨nameds_mono (Nat.zero_le _) (Nat.zero_le _) (Nat.zero_le _) _ h.nm.1, nameds_mono (Nat.zero_le _) (Nat.zero_le _) (Nat.zero_le _) _ h.nm.2⟩
theorem PredC.fnc {P : Program} {g : FuncId} {fs cs : List DV} {dom : DV → Prop} {p : DV → Bool} (h : PredC P g fs cs dom p) : FnC P g := ⟨h.fn⟩
theorem PredC.con {P : Program} {g : FuncId} {fs cs : List DV} {dom : DV → Prop} {p : DV → Bool} (h : PredC P g fs cs dom p) (x : DV) : Con P g (fs ++ (x :: cs)) (dom x) (.bool (p x)) :=
 ⟨fun hd => by have := h.ok x hd; simpa using this⟩
theorem fi_lt {p : DV → Bool} {xs : List DV} {i : Nat} (h : i < xs.findIdx p) : p (xs.getD i .undef) = false := by
 have hl : i < xs.length := Nat.lt_of_lt_of_le h List.findIdx_le_length
 have := List.not_of_lt_findIdx h
 rw [List.getD_eq_getElem?_getD, List.getElem?_eq_getElem hl]
 simpa using this
theorem fi_eq {p : DV → Bool} {xs : List DV} (h : xs.findIdx p < xs.length) : p (xs.getD (xs.findIdx p) .undef) = true := by
 rw [List.getD_eq_getElem?_getD, List.getElem?_eq_getElem h]
 exact List.findIdx_getElem (w := h)
def idxI (p : DV → Bool) (xs : List DV) : Int := if xs.findIdx p < xs.length then (xs.findIdx p : Nat) else -1
theorem idxI_any (p : DV → Bool) (xs : List DV) : decide (0 ≤ idxI p xs) = xs.any p := by
 unfold idxI
 by_cases h : xs.findIdx p < xs.length
 ·rw [if_pos h]
  have : xs.any p = true := by rw [List.any_eq_true]; exact ⟨_, List.getElem_mem h, List.findIdx_getElem (w := h)⟩
  rw [this]; simp
 ·rw [if_neg h]
  have : xs.any p = false := by
   rw [List.any_eq_false]
   intro x hx
   have e : xs.findIdx p = xs.length := Nat.le_antisymm List.findIdx_le_length (Nat.le_of_not_lt h)
   rw [List.findIdx_eq_length] at e
   simp [e x hx]
  rw [this]; simp
theorem getD_mem {xs : List DV} {i : Nat} (h : i < xs.length) : xs.getD i .undef ∈ xs := by
 rw [List.getD_eq_getElem?_getD, List.getElem?_eq_getElem h]; exact List.getElem_mem h
theorem PureOwn.pure {P : Program} {f : FuncId} {args xs : List DV} {e : TypeId} {st : Nat} (h : PureOwn P f args xs e st) (hn : nameds 0 0 0 xs = true) : Pure P f args (.sl xs) := by
 refine Pure.of2 (by simpa only [DV.named] using hn) (fun σ => (h σ).mono ?_)
 rintro r σ' ⟨rfl, rfl⟩
 refine ⟨.row σ.rows.length ⟨xs, e, st⟩ (Nat.le_refl _) (by simp) ?_, ⟨⟨_, rfl⟩, ⟨[], (List.append_nil _).symm⟩, ⟨[], (List.append_nil _).symm⟩⟩⟩
 have : frzA σ.rows.length xs (.row σ.rows.length xs.length) = .sl xs := by simp [frzA]
 rw [this]
 exact .done
section
variable {slots : List DV} {σ : Store} {Q : Exit → St → Prop} {s : Nat → List DV} {st : Nat → Store} {n i : Nat} {Rb R R' rg : List (Option Row)} {A B B' bg : List (Option Box)} {Mb M M' mg : List (Option (List (DV × DV)))}
theorem Q_rndC (hle : LeL slots (s (i + 1))) (hi : i < n) (h0 : st i = ⟨Rb ++ R, A ++ B, Mb ++ M⟩) (h1 : st (i + 1) = ⟨Rb ++ R', A ++ B', Mb ++ M'⟩) (hr : σ.rows = Rb ++ (R' ++ rg)) (hb : σ.boxes = A ++ (B' ++ bg)) (hm : σ.maps = Mb ++ (M' ++ mg))
  (l1 : R.length ≤ R'.length) (l2 : B.length ≤ B'.length) (l3 : M.length ≤ M'.length) (hn : nameds (Rb ++ R').length (A ++ B').length (Mb ++ M').length (s (i + 1)) = true)
  (hR : ∀ x ∈ R', ∀ b, x = some b → nameds (Rb ++ R').length (A ++ B').length (Mb ++ M').length b.xs = true)
  (hB : ∀ x ∈ B', ∀ b, x = some b → nameds (Rb ++ R').length (A ++ B').length (Mb ++ M').length b.cs = true)
  (hM : ∀ x ∈ M', ∀ b, x = some b → ∀ p ∈ b, p.1.named (Rb ++ R').length (A ++ B').length (Mb ++ M').length = true ∧ p.2.named (Rb ++ R').length (A ++ B').length (Mb ++ M').length = true) :
  RoundG s st n i Q .normal ⟨slots, σ⟩ := by
 refine Q_rndG hi ⟨hle, ?_, ?_, ?_, ?_⟩
 ·rw [h1]; exact ⟨⟨rg, by rw [hr, List.append_assoc]⟩, ⟨bg, by rw [hb, List.append_assoc]⟩, ⟨mg, by rw [hm, List.append_assoc]⟩⟩
 ·rw [h0, h1]; simp; omega
 ·rw [h1]; exact hn
 ·rw [h0, h1]
  refine ⟨fun id R0 h => ?_, fun id b h => ?_, fun id b h => ?_⟩
  ·simp only at h ⊢
   rcases Nat.lt_or_ge id Rb.length with hlt | hge
   ·rw [List.getElem?_append_left hlt] at h ⊢
    exact .inl h
   ·rw [List.getElem?_append_right hge] at h
    exact .inr (hR _ (List.mem_of_getElem? h) R0 rfl)
  ·simp only at h ⊢
   rcases Nat.lt_or_ge id A.length with hlt | hge
   ·rw [List.getElem?_append_left hlt] at h ⊢
    exact .inl h
   ·rw [List.getElem?_append_right hge] at h
    exact .inr (hB _ (List.mem_of_getElem? h) b rfl)
  ·simp only at h ⊢
   rcases Nat.lt_or_ge id Mb.length with hlt | hge
   ·rw [List.getElem?_append_left hlt] at h ⊢
    exact .inl h
   ·rw [List.getElem?_append_right hge] at h
    exact .inr (hM _ (List.mem_of_getElem? h) b rfl)
def rowInB : List (Option Box) → Option (Nat × Nat)
 | [] => none
 | none :: l => rowInB l
 | some b :: l => match rowInL b.cs with
  | some p => some p
  | none => rowInB l
theorem W_frzBx {P : Program} {c : Code} {slots' : List DV} {id len : Nat} {Rw : Row} {B' : List (Option Box)} {rows' : List (Option Row)} {maps : List (Option (List (DV × DV)))} {rows : List (Option Row)} (k : Ev P c ⟨slots', ⟨rows', A ++ B', maps⟩⟩ Q)
  (hi : rowInB B = some (id, len) := by simp only [rowInB, rowInL, DV.rowIn]; exact rfl)
  (hR : rows[id]? = some (some Rw) := by (try simp only [app_get, app_get0, List.getElem?_cons_succ, List.getElem?_cons_zero]) <;> exact rfl)
  (hl : Rw.xs.length = len := by first | rfl | (simp only [go_sem]; done) | (simp only [go_sem]; omega))
  (hs : frzAtL id len Rw.xs slots = slots' := by simp (disch := omega) only [frzAt, frzAtL, if_pos, if_neg, and_self, if_true]; exact rfl)
  (hB : B.map (frzBox id len Rw.xs) = B' := by simp (disch := omega) only [frzBox, List.map_cons, List.map_nil, frzAt, frzAtL, if_pos, if_neg, and_self, if_true]; exact rfl)
  (hr : rows.set id none = rows' := by (try simp only [app_set, app_set0, List.set_cons_succ, List.set_cons_zero]) <;> exact rfl) : Ev P c ⟨slots, ⟨rows, A ++ B, maps⟩⟩ Q := by
 subst hl; subst hs; subst hB; subst hr
 intro w0 G0 σ0 W0 G a w hx hr
 obtain ⟨G', h1, h2, h3⟩ := hr.frzB hR rfl
 exact k w0 G0 σ0 W0 G' a w (hx.trans h2) h1
theorem allN_nil {α : Type} (p : α → Prop) : ∀ x ∈ ([] : List (Option α)), ∀ b, x = some b → p b := by simp
theorem allN_none {α : Type} {p : α → Prop} {l : List (Option α)} (h : ∀ x ∈ l, ∀ b, x = some b → p b) : ∀ x ∈ none :: l, ∀ b, x = some b → p b := by
 intro x hx b hb
 rcases List.mem_cons.1 hx with rfl | hx
 ·cases hb
 ·exact h x hx b hb
theorem allN_some {α : Type} {p : α → Prop} {a : α} {l : List (Option α)} (ha : p a) (h : ∀ x ∈ l, ∀ b, x = some b → p b) : ∀ x ∈ some a :: l, ∀ b, x = some b → p b := by
 intro x hx b hb
 rcases List.mem_cons.1 hx with rfl | hx
 ·cases hb; exact ha
 ·exact h x hx b hb
end
end Go.Val
end

section
namespace Go.Val
open Go.RowKit
set_option linter.unusedSimpArgs false
set_option linter.unusedVariables false

theorem wp_const {P : Program} {o : Oper} {a : Act} {w : World} {X : Prop} (h : o.wp P a w (fun _ _ => X) (fun _ _ _ => False)) : X := by
  unfold Oper.wp at h
  generalize (execOp a.eval o).run P w = r at h
  unfold Oper.upon at h
  split at h
  · exact h
  · exact h
  · exact h
  · obtain ⟨e, w', fr, hR, _⟩ := h []
    cases e with
    | returned v => exact hR
    | panicked c => exact hR.elim
    | outgrown => obtain ⟨a, w, h⟩ := hR; exact h.elim
  · rename_i row args w'
    obtain ⟨v, w2, hR, _⟩ := h (Frame.ofRow P row args .normal) []
    exact hR
  · exact h.elim
  · exact h.elim

structure Cre where
  at_ : Nat
  tmp : Tmp
  ty : TypeId
  deriving DecidableEq
def boxOf (T : TypeId → TI) (c : Cre) : Option Box := some ⟨c.ty, (ofVal (T c.ty).zero).cells⟩
def isCre (cs : List Cre) (i : Nat) : Bool := cs.any fun c => c.at_ == i
def creT (cs : List Cre) (t : Tmp) : Option Nat := cs.findIdx? fun c => c.tmp == t
def pat (cs : List Cre) (n0 : Nat) (s : List DV) : List DV := s.mapIdx fun t x => match creT cs t with | some i => .ptr (n0 + i) 0 | none => x

def DrwC (P : Program) (E : Store → Prop) (ops : Array Oper) : List Oper → List Bool → List Bool → List DV → Store → (List DV → Store → Prop) → Prop
  | [], _, _, s, σ, K => E σ ∧ K s σ
  | o :: l, f, g, s, σ, K => E σ ∧
      ((g.headD false = true ∧ DrwC P E ops l f.tail g.tail s σ K)
      ∨ (g.headD false = false ∧ wantedD ops s o = some false ∧ f.headD false = false ∧ DrwC P E ops l f.tail g.tail (St.put ⟨s, σ⟩ o.dst (.tup [])).slots σ K)
      ∨ (g.headD false = false ∧ wantedD ops s o = some true ∧ f.headD false = false ∧ ∃ d, Stable P E ops s o d ∧ DrwC P E ops l f.tail g.tail (St.put ⟨s, σ⟩ o.dst d).slots σ K)
      ∨ (g.headD false = false ∧ wantedD ops s o = some true ∧ f.headD false = true ∧ ∃ d σ', StableE P ops s σ o d σ' ∧ DrwC P E ops l f.tail g.tail (St.put ⟨s, σ⟩ o.dst d).slots σ' K))

def keepAt : List Oper → List Bool → List Oper
  | [], _ => []
  | o :: l, g => if g.headD false then keepAt l g.tail else o :: keepAt l g.tail
def keepF : List Oper → List Bool → List Bool → List Bool
  | [], _, _ => []
  | _ :: l, f, g => if g.headD false then keepF l f.tail g.tail else f.headD false :: keepF l f.tail g.tail
theorem DrwC.of {P : Program} {E : Store → Prop} {ops : Array Oper} {K : List DV → Store → Prop} : ∀ {l : List Oper} {f g : List Bool} {s : List DV} {σ : Store},
    E σ → Drw P E ops (keepAt l g) (keepF l f g) s σ K → DrwC P E ops l f g s σ K
  | [], _, _, _, _, _, h => h
  | o :: l, f, g, s, σ, hE, h => by
    unfold keepAt keepF at h
    cases hg : g.headD false with
    | true =>
      rw [hg] at h
      exact ⟨hE, .inl ⟨hg, DrwC.of hE h⟩⟩
    | false =>
      rw [hg] at h
      simp only [Bool.false_eq_true, if_false] at h
      obtain ⟨_, h⟩ := h
      refine ⟨hE, .inr ?_⟩
      rcases h with ⟨h1, h2, h3⟩ | ⟨h1, h2, d, h3, h4⟩ | ⟨h1, h2, d, σ', h3, h4⟩
      · exact .inl ⟨hg, h1, h2, DrwC.of hE h3⟩
      · exact .inr (.inl ⟨hg, h1, h2, d, h3, DrwC.of hE h4⟩)
      · refine .inr (.inr ⟨hg, h1, h2, d, σ', h3, DrwC.of ?_ h4⟩)
        have : ∀ {l : List Oper} {f : List Bool} {s : List DV} {σ : Store}, Drw P E ops l f s σ K → E σ := by
          intro l f s σ h; cases l <;> exact h.1
        exact this h4
theorem DrwC.steps {P : Program} {E : Store → Prop} {ops : Array Oper} {K : List DV → Store → Prop} : ∀ {l : List Oper} {f g : List Bool} {s : List DV} {σ : Store}, DrwC P E ops l f g s σ K →
    ∃ (ss : Nat → List DV) (st : Nat → Store) (d : Nat → DV), ss 0 = s ∧ st 0 = σ ∧ K (ss l.length) (st l.length) ∧ (∀ i, i ≤ l.length → E (st i)) ∧
      ∀ i o, l[i]? = some o → (g.getD i false = true → ss (i + 1) = ss i ∧ st (i + 1) = st i ∧ d i = .undef) ∧ (g.getD i false = false → StepAt P E ops f i o (ss i) (st i) (d i) (st (i + 1)) ∧ ss (i + 1) = putS (ss i) o.dst (d i)) := by
  intro l
  induction l with
  | nil => intro f g s σ h; exact ⟨fun _ => s, fun _ => σ, fun _ => .undef, rfl, rfl, h.2, fun _ _ => h.1, fun i o h => by simp at h⟩
  | cons o l ih =>
    intro f g s σ h
    obtain ⟨hE, h⟩ := h
    have h0f : f.getD 0 false = f.headD false := by cases f <;> rfl
    have h0g : g.getD 0 false = g.headD false := by cases g <;> rfl
    have fin : ∀ (d0 : DV) (s1 : List DV) (σ1 : Store), (g.getD 0 false = true → s1 = s ∧ σ1 = σ ∧ d0 = .undef) → (g.getD 0 false = false → StepAt P E ops f 0 o s σ d0 σ1 ∧ s1 = putS s o.dst d0) → DrwC P E ops l f.tail g.tail s1 σ1 K →
        ∃ (ss : Nat → List DV) (st : Nat → Store) (d : Nat → DV), ss 0 = s ∧ st 0 = σ ∧ K (ss (o :: l).length) (st (o :: l).length) ∧ (∀ i, i ≤ (o :: l).length → E (st i)) ∧
          ∀ i p, (o :: l)[i]? = some p → (g.getD i false = true → ss (i + 1) = ss i ∧ st (i + 1) = st i ∧ d i = .undef) ∧ (g.getD i false = false → StepAt P E ops f i p (ss i) (st i) (d i) (st (i + 1)) ∧ ss (i + 1) = putS (ss i) p.dst (d i)) := by
      intro d0 s1 σ1 h0 h0' h1
      obtain ⟨ss, st, d, e1, e2, e3, e4, e5⟩ := ih h1
      refine ⟨fun i => match i with | 0 => s | i + 1 => ss i, fun i => match i with | 0 => σ | i + 1 => st i, fun i => match i with | 0 => d0 | i + 1 => d i, rfl, rfl, e3, fun i hi => ?_, fun i p hp => ?_⟩
      · cases i with
        | zero => exact hE
        | succ i => exact e4 i (by simpa using hi)
      · cases i with
        | zero =>
          simp only [List.getElem?_cons_zero, Option.some.injEq] at hp
          subst hp
          simp only [e1, e2]
          exact ⟨h0, h0'⟩
        | succ i =>
          simp only [List.getElem?_cons_succ] at hp
          have := e5 i p hp
          simp only
          rw [show g.getD (i + 1) false = g.tail.getD i false by cases g <;> simp]
          refine ⟨this.1, fun hg => ?_⟩
          have h := this.2 hg
          refine ⟨?_, h.2⟩
          have h := h.1
          unfold StepAt at h ⊢
          rw [show f.getD (i + 1) false = f.tail.getD i false by cases f <;> simp]
          exact h
    rcases h with ⟨hg, h1⟩ | ⟨hg, h1, h2, h3⟩ | ⟨hg, h1, h2, d, h3, h4⟩ | ⟨hg, h1, h2, d, σ', h3, h4⟩
    · exact fin .undef s σ (fun _ => ⟨rfl, rfl, rfl⟩) (fun h => by rw [h0g, hg] at h; cases h) h1
    · rw [putS_eq] at h3; exact fin (.tup []) _ σ (fun h => by rw [h0g, hg] at h; cases h) (fun _ => ⟨.inl ⟨h1, by rw [h0f, h2], rfl, rfl⟩, rfl⟩) h3
    · rw [putS_eq] at h4; exact fin d _ σ (fun h => by rw [h0g, hg] at h; cases h) (fun _ => ⟨.inr (.inl ⟨h1, by rw [h0f, h2], rfl, h3⟩), rfl⟩) h4
    · rw [putS_eq] at h4; exact fin d _ σ' (fun h => by rw [h0g, hg] at h; cases h) (fun _ => ⟨.inr (.inr ⟨h1, by rw [h0f, h2], h3⟩), rfl⟩) h4

theorem pat_len (cs : List Cre) (n0 : Nat) (s : List DV) : (pat cs n0 s).length = s.length := List.length_mapIdx
theorem pat_get (cs : List Cre) (n0 : Nat) (s : List DV) (t : Nat) : (pat cs n0 s)[t]? = (s[t]?).map fun x => match creT cs t with | some i => .ptr (n0 + i) 0 | none => x := List.getElem?_mapIdx
theorem pat_getD {cs : List Cre} {n0 : Nat} {s s' : List DV} {t : Nat} (h : s.getD t .undef = s'.getD t .undef) (hl : s.length = s'.length) : (pat cs n0 s).getD t .undef = (pat cs n0 s').getD t .undef := by
  rw [List.getD_eq_getElem?_getD, List.getD_eq_getElem?_getD, pat_get, pat_get]
  rw [List.getD_eq_getElem?_getD, List.getD_eq_getElem?_getD] at h
  by_cases ht : t < s.length
  · rw [List.getElem?_eq_getElem ht, List.getElem?_eq_getElem (hl ▸ ht)] at h ⊢
    simp only [Option.getD_some] at h
    simp only [Option.map_some, Option.getD_some, h]
  · rw [List.getElem?_eq_none (by omega), List.getElem?_eq_none (by omega)]
theorem pat_getD_no {cs : List Cre} {n0 : Nat} {s : List DV} {t : Nat} (h : creT cs t = none) : (pat cs n0 s).getD t .undef = s.getD t .undef := by
  rw [List.getD_eq_getElem?_getD, List.getD_eq_getElem?_getD, pat_get, h]
  cases s[t]? <;> rfl
theorem pat_put {cs : List Cre} {n0 : Nat} {s : List DV} {t : Option Tmp} {d : DV} (h : ∀ x, t = some x → creT cs x = none) : pat cs n0 (putS s t d) = putS (pat cs n0 s) t d := by
  cases t with
  | none => rfl
  | some t =>
    apply List.ext_getElem?
    intro j
    simp only [putS]
    rw [pat_get, List.getElem?_set, List.getElem?_set, pat_len, pat_get]
    by_cases e : t = j
    · subst e
      rw [if_pos rfl, if_pos rfl, h t rfl]
      by_cases hl : t < s.length
      · rw [if_pos hl]; rfl
      · rw [if_neg hl]; rfl
    · rw [if_neg e, if_neg e]
theorem pat_undef {cs : List Cre} {n0 : Nat} {s : List DV} {t : Tmp} {d : DV} {i : Nat} (h : creT cs t = some i) : pat cs n0 (putS s (some t) d) = pat cs n0 s := by
  apply List.ext_getElem?
  intro j
  simp only [putS]
  rw [pat_get, List.getElem?_set, pat_get]
  by_cases e : t = j
  · subst e
    rw [if_pos rfl, h]
    by_cases hl : t < s.length
    · rw [if_pos hl, List.getElem?_eq_getElem hl]; rfl
    · rw [if_neg hl, List.getElem?_eq_none (Nat.le_of_not_lt hl)]
  · rw [if_neg e]

section
variable {P : Program} {T : TypeId → TI} {l : List Oper} {f g : List Bool} {cs : List Cre} {n0 : Nat}

def adoptG (G : Gh) (n0 k : Nat) (gb : Nat → Nat) : Gh :=
  { G with own := fun x => match (List.range k).find? (fun i => gb i == x) with | some i => .box (n0 + i) | none => G.own x,
           boxB := fun id => if n0 ≤ id ∧ id < n0 + k then gb (id - n0) else G.boxB id }
theorem adoptG_own {G : Gh} {n0 k : Nat} {gb : Nat → Nat} (hinj : ∀ i j, i < k → j < k → gb i = gb j → i = j) {i : Nat} (hi : i < k) : (adoptG G n0 k gb).own (gb i) = .box (n0 + i) := by
  simp only [adoptG]
  cases hf : (List.range k).find? (fun j => gb j == gb i) with
  | none =>
    have := List.find?_eq_none.1 hf i (by simpa using hi)
    simp at this
  | some j =>
    have h1 := List.find?_some hf
    have h2 : j < k := by simpa using List.mem_of_find?_eq_some hf
    have : gb j = gb i := by simpa using h1
    rw [hinj j i h2 hi this]
theorem adoptG_other {G : Gh} {n0 k : Nat} {gb : Nat → Nat} {x : Nat} (h : ∀ i, i < k → gb i ≠ x) : (adoptG G n0 k gb).own x = G.own x := by
  simp only [adoptG]
  cases hf : (List.range k).find? (fun j => gb j == x) with
  | none => rfl
  | some j =>
    have h1 := List.find?_some hf
    have h2 : j < k := by simpa using List.mem_of_find?_eq_some hf
    exact absurd (by simpa using h1) (h j h2)
theorem adopt {w0 : World} {G : Gh} {w : World} {R : List (Option Row)} {bx : List (Option Box)} {M : List (Option (List (DV × DV)))} {bs : List Box} {gb : Nat → Nat} {pn : Nat → Nat}
    (hS : StoreRel w0 G ⟨R, bx, M⟩ w) (hpi : ∀ i j, i < bs.length → j < bs.length → pn i = pn j → i = j)
    (hb : ∀ i B, bs[i]? = some B → G.own (gb i) = .box (bx.length + pn i) ∧ ∃ arr, w.heap[gb i]? = some (.cells arr B.ty (0, 0)) ∧ RelL G ⟨R, bx, M⟩ w B.cs arr.toList) :
    StoreRel w0 (adoptG G bx.length bs.length gb) ⟨R, bx ++ bs.map some, M⟩ w ∧ Ext G ⟨R, bx, M⟩ w (adoptG G bx.length bs.length gb) ⟨R, bx ++ bs.map some, M⟩ w := by
  have hown : ∀ i, i < bs.length → G.own (gb i) = .box (bx.length + pn i) := fun i hi => (hb i _ (List.getElem?_eq_getElem hi)).1
  have hinj : ∀ i j, i < bs.length → j < bs.length → gb i = gb j → i = j := by
    intro i j hi hj h
    have h1 := hown i hi
    have h2 := hown j hj
    rw [h, h2] at h1
    injection h1 with h1
    exact hpi i j hi hj (by omega)
  have hoth : ∀ x, (∀ p, G.own x ≠ .box (bx.length + p)) → (adoptG G bx.length bs.length gb).own x = G.own x := by
    intro x hx
    refine adoptG_other fun i hi h => ?_
    have := hown i hi
    rw [h] at this
    exact hx _ this
  have hE : Ext G ⟨R, bx, M⟩ w (adoptG G bx.length bs.length gb) ⟨R, bx ++ bs.map some, M⟩ w := by
    refine ⟨fun k hk => ⟨by rw [hoth k (fun p => by rw [hk]; simp)]; exact hk, rfl⟩, Nat.le_refl _, by simp, Nat.le_refl _, fun _ R' _ h => ⟨R', h, rfl, Nat.le_refl _, fun _ => rfl⟩, fun id hid => ?_, fun _ _ => rfl, fun k hk => ⟨by rw [hoth k (fun p => by rw [hk]; simp)]; exact hk, rfl⟩⟩
    simp only [adoptG]
    rw [if_neg (by simp only at hid; omega)]
  refine ⟨⟨hS.below, fun k hk => ?_, fun k h1 h2 => ?_, fun id r hr => ?_, fun id B hB => ?_, fun id m hm => ?_⟩, hE⟩
  · by_cases h : ∃ i, i < bs.length ∧ gb i = k
    · obtain ⟨i, hi, rfl⟩ := h
      exact hS.lt _ (by rw [hown i hi]; simp)
    · rw [adoptG_other (fun i hi e => h ⟨i, hi, e⟩)] at hk
      exact hS.lt k hk
  · by_cases h : ∃ i, i < bs.length ∧ gb i = k
    · obtain ⟨i, hi, rfl⟩ := h
      exact hS.trk _ (by rw [hown i hi]; simp) (by rw [hown i hi]; simp)
    · rw [adoptG_other (fun i hi e => h ⟨i, hi, e⟩)] at h1 h2
      exact hS.trk k h1 h2
  · exact (hS.rows id r hr).keep hE rfl (fun k hk => ⟨by rw [hoth k (fun p => by rw [hk]; simp)]; exact hk, rfl⟩)
  · simp only at hB
    rcases Nat.lt_or_ge id bx.length with hlt | hge
    · rw [List.getElem?_append_left hlt] at hB
      refine (hS.boxes id B hB).keep hE ?_ (fun k hk => ⟨by rw [hoth k (fun p => by rw [hk]; intro e; injection e with e; omega)]; exact hk, rfl⟩)
      simp only [adoptG]
      rw [if_neg (by omega)]
    · rw [List.getElem?_append_right hge, List.getElem?_map] at hB
      cases hq : bs[id - bx.length]? with
      | none => rw [hq] at hB; simp at hB
      | some B' =>
        rw [hq] at hB
        simp only [Option.map_some, Option.some.injEq] at hB
        subst hB
        have hi := (List.getElem?_eq_some_iff.1 hq).1
        obtain ⟨_, arr, ha, hr⟩ := hb _ _ hq
        have eb : (adoptG G bx.length bs.length gb).boxB id = gb (id - bx.length) := by
          simp only [adoptG]
          rw [if_pos (by omega)]
        refine ⟨?_, arr, by rw [eb]; exact ha, hr.ext hE⟩
        rw [eb, adoptG_own hinj hi]
        congr 1
        omega
  · exact (hS.maps id m hm).keep hE rfl (fun k hk => ⟨by rw [hoth k (fun p => by rw [hk]; simp)]; exact hk, rfl⟩)

def boxC (T : TypeId → TI) (c : Cre) : Box := ⟨c.ty, (ofVal (T c.ty).zero).cells⟩
def creOK (l : List Oper) (f g : List Bool) (cs : List Cre) : Bool :=
  (cs.all fun c => (match l[c.at_]? with
    | some o => (match o.op with | .alloc e => e == c.ty | _ => false) && o.dst == some c.tmp && o.guard.isNone
    | none => false) && !f.getD c.at_ false) && decide ((cs.map (·.at_)).Nodup) && decide ((cs.map (·.tmp)).Nodup) && decide (g.length ≤ l.length) &&
  (let cl := closB l
   (List.range l.length).all fun j => match l[j]? with
    | none => true
    | some o => (g.getD j false == isCre cs j) && (isCre cs j ||
        ((match o.dst with | some t => (creT cs t).isNone | none => true) &&
          (!(f.getD j false || (o.looksAt l.toArray).any fun t => (creT cs t).isSome) || cs.all fun c => (cl.getD j 0).testBit c.at_))))
theorem isCre_iff {cs : List Cre} {i : Nat} : isCre cs i = true ↔ ∃ c ∈ cs, c.at_ = i := by simp [isCre]
theorem creT_some {cs : List Cre} (hn : (cs.map (·.tmp)).Nodup) {i : Nat} {c : Cre} (h : cs[i]? = some c) : creT cs c.tmp = some i := by
  obtain ⟨hi, rfl⟩ := List.getElem?_eq_some_iff.1 h
  unfold creT
  rw [List.findIdx?_eq_some_iff_getElem]
  refine ⟨hi, by simp, fun j hj => ?_⟩
  simp only [beq_iff_eq, Bool.not_eq_true', beq_eq_false_iff_ne, ne_eq]
  intro e
  have := (List.getElem_inj (i := j) (j := i) (h₀ := by simp; omega) (h₁ := by simp; omega) hn).1 (by simpa using e)
  omega
theorem creT_get {cs : List Cre} {t : Tmp} {i : Nat} (h : creT cs t = some i) : ∃ c, cs[i]? = some c ∧ c.tmp = t := by
  unfold creT at h
  rw [List.findIdx?_eq_some_iff_getElem] at h
  obtain ⟨hi, h1, _⟩ := h
  exact ⟨cs[i], List.getElem?_eq_getElem hi, by simpa using h1⟩
theorem stAt_none {f : List Bool} {st : Nat → Store} {L : Nat → Bool} : ∀ {k}, (∀ j, j < k → f.getD j false = true → L j = false) → stAt f st L k = st 0
  | 0, _ => rfl
  | k + 1, h => by
    simp only [stAt]
    rw [stAt_none (fun j hj => h j (by omega))]
    cases hf : f.getD k false with
    | false => simp
    | true => rw [h k (by omega) hf]; simp
theorem nameds_put {r b m : Nat} {s : List DV} {t : Option Tmp} {d : DV} (h : nameds r b m s = true) (hd : d.named r b m = true) : nameds r b m (putS s t d) = true := by
  cases t with
  | none => exact h
  | some t =>
    rw [nameds_iff] at h ⊢
    intro c hc
    rcases List.mem_or_eq_of_mem_set hc with h1 | h1
    · exact h c h1
    · rw [h1]; exact hd
theorem tmps_put {a : Act} {t u : Tmp} {v x : Value} (h : (a.put (some t) v).tmps.toList[u]? = some x) : (u ≠ t ∧ a.tmps.toList[u]? = some x) ∨ (u = t ∧ x = v) := by
  simp only [Act.put, Array.toList_setIfInBounds, List.getElem?_set] at h
  by_cases e : t = u
  · subst e
    rw [if_pos rfl] at h
    split at h
    · injection h with h; exact .inr ⟨rfl, h.symm⟩
    · cases h
  · rw [if_neg e] at h
    exact .inl ⟨fun h' => e h'.symm, h⟩

end
/-! ### the short rule -/
def setsC : List Cre → Nat → List DV → List DV
  | [], _, s => s
  | c :: cs, n, s => setsC cs (n + 1) (s.set c.tmp (.ptr n 0))
theorem setsC_nil (n : Nat) (s : List DV) : setsC [] n s = s := rfl
theorem setsC_cons (c : Cre) (cs : List Cre) (n : Nat) (s : List DV) : setsC (c :: cs) n s = setsC cs (n + 1) (s.set c.tmp (.ptr n 0)) := rfl
theorem setsC_get : ∀ (cs : List Cre) (n : Nat) (s : List DV) (t : Nat), (cs.map (·.tmp)).Nodup → (setsC cs n s)[t]? = (s[t]?).map fun x => match creT cs t with | some i => .ptr (n + i) 0 | none => x
  | [], n, s, t, _ => by simp [setsC, creT]
  | c :: cs, n, s, t, hn => by
    rw [List.map_cons, List.nodup_cons] at hn
    rw [setsC, setsC_get cs (n + 1) _ t hn.2, List.getElem?_set]
    have hc : creT (c :: cs) t = if c.tmp == t then some 0 else (creT cs t).map (· + 1) := by unfold creT; rw [List.findIdx?_cons]
    rw [hc]
    by_cases e : c.tmp = t
    · subst e
      have hno : creT cs c.tmp = none := by
        cases h : creT cs c.tmp with
        | none => rfl
        | some i =>
          obtain ⟨c', h1, h2⟩ := creT_get h
          exact absurd (List.mem_map.2 ⟨c', List.mem_of_getElem? h1, h2⟩) hn.1
      rw [if_pos rfl, hno]
      simp only [beq_self_eq_true, if_true, Nat.add_zero]
      by_cases hl : c.tmp < s.length
      · rw [if_pos hl, List.getElem?_eq_getElem hl]; rfl
      · rw [if_neg hl, List.getElem?_eq_none (Nat.le_of_not_lt hl)]; rfl
    · rw [if_neg e]
      have e' : (c.tmp == t) = false := by simpa using e
      rw [e']
      simp only [Bool.false_eq_true, if_false]
      cases creT cs t with
      | none => rfl
      | some i => simp only [Option.map_some, Nat.add_assoc, Nat.add_comm 1 i]
theorem pat_sets {cs : List Cre} (hn : (cs.map (·.tmp)).Nodup) (n : Nat) (s : List DV) : pat cs n s = setsC cs n s := by
  apply List.ext_getElem?
  intro t
  rw [pat_get, setsC_get cs n s t hn]
theorem keepAt_nil (g : List Bool) : keepAt [] g = [] := rfl
theorem keepAt_t (o : Oper) (l : List Oper) (g : List Bool) : keepAt (o :: l) (true :: g) = keepAt l g := rfl
theorem keepAt_f (o : Oper) (l : List Oper) (g : List Bool) : keepAt (o :: l) (false :: g) = o :: keepAt l g := rfl
def maskF : List Bool → List Bool → List Bool
  | [], _ => []
  | b :: f, g => (b && !g.headD false) :: maskF f g.tail
section
variable {P : Program} {T : TypeId → TI} {dsts : List (Option Tmp)} {l l' : List Oper} {s s' : List DV} {σ : Store} {Q : Exit → St → Prop} {bs : List (Option Box)}
end
end Go.Val
end

section
namespace Go.Val
open Go.RowKit
set_option linter.unusedSimpArgs false
set_option linter.unusedVariables false

structure Refr (b : Nat) (w w' : World) : Prop where
 os : w'.os = w.os
 tape : w'.tape = w.tape
 output : w'.output = w.output
 size : w'.heap.size = w.heap.size
 other : ∀ k, k ≠ b → w'.heap[k]? = w.heap[k]?
 cells : ∃ C e fr fr', w.heap[b]? = some (.cells C e fr) ∧ w'.heap[b]? = some (.cells C e fr')
theorem freeze_refr {w : World} {b k n : Nat} {C : Array Value} {e : TypeId} {fr : Nat × Nat} (h : w.heap[b]? = some (.cells C e fr)) : Refr b w (w.freeze ⟨b, k, none⟩ n) := by
 unfold World.freeze
 split
 ·exact ⟨rfl, rfl, rfl, rfl, fun _ _ => rfl, C, e, fr, fr, h, h⟩
 ·refine ⟨rfl, rfl, rfl, by simp, fun j hj => ?_, ?_⟩
  ·simp only [Array.getElem?_modify]
   rw [if_neg (Ne.symm hj)]
  ·refine ⟨C, e, fr, ?_⟩
   simp only [Array.getElem?_modify, if_true, h, Option.map_some]
   exact ⟨_, trivial, rfl⟩
section
variable {w0 : World} {G : Gh} {σ : Store} {w w' : World} {b : Nat}
theorem Refr.cell (h : Refr b w w') (a : Addr) : w'.cell? a = w.cell? a := by
 simp only [World.cell?]
 by_cases e : a.block = b
 ·obtain ⟨C, e', fr, fr', h1, h2⟩ := h.cells
  rw [e, h1, h2]
 ·rw [h.other _ e]
theorem Refr.map {k : Nat} {es : Array MapEntry} {c : Nat} (h : Refr b w w') (hk : w.heap[k]? = some (.map es c)) : w'.heap[k]? = some (.map es c) := by
 rw [h.other k ?_]
 ·exact hk
 ·rintro rfl
  obtain ⟨C, e', fr, fr', h1, h2⟩ := h.cells
  rw [hk] at h1; cases h1
theorem RelV.refr (hx : Refr b w w') {d : DV} {v : Value} (h : RelV G σ w d v) : RelV G σ w' d v := by
 induction h with
 | undef v => exact .undef v
 | int k n => exact .int k n
 | bool b => exact .bool b
 | str s => exact .str s
 | agg cs vs hl _ ih => exact .agg cs vs hl ih
 | tup cs vs hl _ ih => exact .tup cs vs hl ih
 | sl xs A n c st b o vs hn hc hA hst hm hr ih => exact .sl xs A n c st b o vs hn hc hA hst (fun i hi' => by rw [hx.cell]; exact hm i hi') ih
 | slt xs A n st b o vs hn hA hst hm hr ih => exact .slt xs A n st b o vs hn hA hst (fun i hi' => by rw [hx.cell]; exact hm i hi') ih
 | row id len v hid hle h => exact .row id len v hid hle h
 | ptr b off hb => exact .ptr b off hb
 | cp cs b o vs him hm hr ih => exact .cp cs b o vs him (fun i hi' => by rw [hx.cell]; exact hm i hi') ih
 | rp id len i off v hid hle h => exact .rp id len i off v hid hle h
 | nilp => exact .nilp
 | fn f fs cs us vs hf _ hl _ ihF ih => exact .fn f fs cs us vs hf ihF hl ih
 | nilfn => exact .nilfn
 | mp id hid => exact .mp id hid
 | cm ks vs k clock es him hh h1 h2 hk hv hb hn ihk ihv => exact .cm ks vs k clock es him (hx.map hh) h1 h2 ihk ihv hb hn
 | it id hid => exact .it id hid
theorem RelL.refr (hx : Refr b w w') {cs : List DV} {vs : List Value} (h : RelL G σ w cs vs) : RelL G σ w' cs vs := ⟨h.1, fun i c v hc hv => (h.2 i c v hc hv).refr hx⟩
theorem Ext.refr (hx : Refr b w w') {G0 : Gh} {σ0 : Store} {W0 : World} (h0 : G0.own b ≠ .imm) (hi : G.own b = .imm) (h : Ext G0 σ0 W0 G σ w) : Ext G0 σ0 W0 G σ w' :=
 ⟨fun k hk => ⟨(h.imm k hk).1, by rw [hx.other k (fun e => h0 (e ▸ hk))]; exact (h.imm k hk).2⟩, h.rowsLen, h.boxesLen, h.mapsLen, h.rowV, h.boxB, h.mapB, fun k hk => ⟨(h.dfr k hk).1, by rw [hx.other k (fun e => by have := (h.dfr k hk).1; rw [e, hi] at this; cases this)]; exact (h.dfr k hk).2⟩⟩
theorem Dfs.refr (hx : Refr b w w') (hi : G.own b = .imm) {ds : List Deferred} (h : Dfs G w ds) : Dfs G w' ds :=
 ⟨h.1, fun d hd => let ⟨r, h1, h2, h3⟩ := h.2 d hd; ⟨r, h1, h2, by rw [hx.other r (fun e => by rw [e, hi] at h2; cases h2)]; exact h3⟩⟩
theorem StoreRel.refr (hx : Refr b w w') (hb : w0.heap.size ≤ b) (hi : G.own b = .imm) (h : StoreRel w0 G σ w) : StoreRel w0 G σ w' := by
 have hoth : ∀ k, G.own k ≠ .imm → w'.heap[k]? = w.heap[k]? := fun k hk => hx.other k (fun e => hk (e ▸ hi))
 refine ⟨⟨hx.os.trans h.below.os, hx.tape.trans h.below.tape, hx.output.trans h.below.output, by rw [hx.size]; exact h.below.size, fun k hk => by rw [hx.other k (by omega)]; exact h.below.block k hk⟩, fun k hk => by rw [hx.size]; exact h.lt k hk, h.trk, fun id R hR => ?_, fun id B hB => ?_, fun id M hM => ?_⟩
 ·obtain ⟨h0, h1, A, n, c, hA, hn, hc, hr⟩ := h.rows id R hR
  refine ⟨h0, h1, A, n, c, hA, hn, hc, hr.imp (fun h => h) ?_⟩
  rintro ⟨g, arr, fr, h2, h3, h4, h5, h6, h7⟩
  exact ⟨g, arr, fr, h2, h3, by rw [hoth g (by rw [h3]; simp)]; exact h4, h5, h6, fun i d v hd hv => (h7 i d v hd hv).refr hx⟩
 ·obtain ⟨h0, arr, h1, h2⟩ := h.boxes id B hB
  exact ⟨h0, arr, by rw [hoth _ (by rw [h0]; simp)]; exact h1, h2.refr hx⟩
 ·obtain ⟨h0, hh⟩ := h.maps id M hM
  refine ⟨h0, hh.imp ?_ ?_⟩
  ·rintro ⟨g0, es, clock, h1, h2, h3, h4, h5⟩
   exact ⟨g0, es, clock, by rw [hoth _ (by rw [h0]; simp)]; exact h1, h2, fun i e m he hm => ⟨(h3 i e m he hm).1.refr hx, (h3 i e m he hm).2.refr hx⟩, h4, h5⟩
  ·rintro ⟨ks, vs, is, k, es, clock, since, last, seen, h1, h2, h3, h4, h5⟩
   exact ⟨ks, vs, is, k, es, clock, since, last, seen, h1, h2.refr hx, hx.map h3, by rw [hoth _ (by rw [h0]; simp)]; exact h4, h5⟩
end

structure Lit where
 i : Nat
 j : Nat
 t : Tmp
 ty : TypeId
 e : TypeId
 deriving DecidableEq
def fixL (lits : List Lit) (i : Nat) (o : Oper) : Oper := match lits.find? (fun x => x.j == i) with | some x => { o with op := .move (.tmp x.t) } | none => o
theorem fixL_dst (lits : List Lit) (i : Nat) (o : Oper) : (fixL lits i o).dst = o.dst := by unfold fixL; split <;> rfl
theorem fixL_guard (lits : List Lit) (i : Nat) (o : Oper) : (fixL lits i o).guard = o.guard := by unfold fixL; split <;> rfl
theorem fixL_none {lits : List Lit} {i : Nat} {o : Oper} (h : ∀ x ∈ lits, x.j ≠ i) : fixL lits i o = o := by
 unfold fixL
 rw [List.find?_eq_none.2 (fun x hx => by simpa using h x hx)]

structure LitFacts (P : Program) (T : TypeId → TI) (l : List Oper) (f : List Bool) (lits : List Lit) : Prop where
 one : ∀ x ∈ lits, ∀ k o, l[k]? = some o → o.dst = some x.t → k = x.i
 bld : ∀ x ∈ lits, ∃ len ps o, l[x.i]? = some o ∧ o.op = .buildSlice x.ty len ps ∧ o.dst = some x.t ∧ 0 < len ∧ o.guard = none ∧ ∀ σ s, ∃ C xs, newD T σ s (.buildSlice x.ty len ps) = some (C, .slt xs) ∧ C
 cnv : ∀ x ∈ lits, ∃ o, l[x.j]? = some o ∧ o.op = .convert x.ty x.ty (.tmp x.t)
 fl : ∀ x ∈ lits, f.getD x.i false = false ∧ f.getD x.j false = false
 lt : ∀ x ∈ lits, x.i < x.j
 ty : ∀ x ∈ lits, (T x.ty).ty = .slice x.e ∧ (T x.e).ty = .int .u8

def LInv (lits : List Lit) (A : Nat → Bool) (w0 : World) (G0 G : Gh) (a : Act) (w : World) : Prop :=
 ∀ x ∈ lits, A x.i = true → ∃ b C fr n, a.tmps.toList[x.t]? = some (.slice (some ⟨b, 0, none⟩) n n) ∧ G.own b = .imm ∧ w.heap[b]? = some (.cells C x.e fr) ∧ w0.heap.size ≤ b ∧ G0.own b ≠ .imm

theorem tmps_put_ne {a : Act} {t : Option Tmp} {v : Value} {u : Tmp} (h : t ≠ some u) : (a.put t v).tmps.toList[u]? = a.tmps.toList[u]? := by
 cases t with
 | none => rfl
 | some t =>
  simp only [Act.put, Array.toList_setIfInBounds, List.getElem?_set]
  rw [if_neg (fun e => h (by rw [e]))]

section
variable {P : Program} {T : TypeId → TI} {lits : List Lit} {l : List Oper} {f : List Bool} {w0 : World} {G0 G G' : Gh} {σ σ' σ0 : Store} {a : Act} {w w' W0 : World} {A : Nat → Bool} {i : Nat} {o : Oper}

theorem LInv.ext (h : LInv lits A w0 G0 G a w) (hE : Ext G σ w G' σ' w') : LInv lits A w0 G0 G' a w' := by
 intro x hx hA
 obtain ⟨b, C, fr, n, h1, h2, h3, h4, h5⟩ := h x hx hA
 obtain ⟨e1, e2⟩ := hE.imm b h2
 exact ⟨b, C, fr, n, h1, e1, by rw [e2]; exact h3, h4, h5⟩
theorem LInv.put (h : LInv lits A w0 G0 G a w) (hF : LitFacts P T l f lits) (ho : l[i]? = some o) (hi : ∀ x ∈ lits, x.i ≠ i) (v : Value) : LInv lits (plus A i) w0 G0 G (a.put o.dst v) w := by
 intro x hx hA
 simp only [plus] at hA
 rw [if_neg (hi x hx)] at hA
 obtain ⟨b, C, fr, n, h1, h2, h3, h4, h5⟩ := h x hx hA
 refine ⟨b, C, fr, n, ?_, h2, h3, h4, h5⟩
 rw [tmps_put_ne]
 ·exact h1
 ·intro e; exact hi x hx (hF.one x hx i o ho e).symm

theorem lit_step (hF : LitFacts P T l f lits) (hT : TOK P T) {τ : Store} {s' : List DV} {d : DV} {K : Act → World → Prop} {Qr} (ho : l[i]? = some o) (hq : Quiet P τ s' (fixL lits i o) d)
  (hsl : ∀ t n ps, (fixL lits i o).op = .buildSlice t n ps → ∃ xs, d = .slt xs ∧ xs.length = n)
  (hr : RelS w0 G ⟨s', τ⟩ a w) (hx : Ext G0 σ0 W0 G τ w) (hI : LInv lits A w0 G0 G a w) (hdep : ∀ x ∈ lits, x.j = i → A x.i = true) (hsz : ∀ x ∈ lits, x.t < a.tmps.size)
  (k : ∀ v G' w', StoreRel w0 G' τ w' → RelL G' τ w' s' a.tmps.toList → RelV G' τ w' d v → Ext G0 σ0 W0 G' τ w' → ((∀ id, id < τ.boxes.length → G'.boxB id = G.boxB id) ∧ ∀ ds, Dfs G w ds → Dfs G' w' ds) → LInv lits (plus A i) w0 G0 G' (a.put o.dst v) w' → K (a.put o.dst v) w') : o.wp P a w K Qr := by
 have virt := hq w0 G a w (fun a' w' => ∃ v G', a' = a.put o.dst v ∧ StoreRel w0 G' τ w' ∧ Ext G τ w G' τ w' ∧ RelV G' τ w' d v) (fun _ _ _ => False) hr (fun v G' w' h1 h2 h3 => ⟨v, G', by rw [fixL_dst], h1, h2, h3⟩)
 cases hfd : lits.find? (fun x => x.j == i) with
 | some x =>
  have hxm := List.mem_of_find?_eq_some hfd
  have hxj : x.j = i := by simpa using List.find?_some hfd
  obtain ⟨o', ho', hop⟩ := hF.cnv x hxm
  rw [hxj, ho] at ho'; injection ho' with ho'; subst ho'
  obtain ⟨b, C, fr, n, h1, h2, h3, h4, h5⟩ := hI x hxm (hdep x hxm hxj)
  obtain ⟨ht1, ht2⟩ := hF.ty x hxm
  have ev : a.eval (.tmp x.t) = .slice (some ⟨b, 0, none⟩) n n := by
   simp only [Act.eval]
   rw [Array.getElem?_toList] at h1
   rw [Array.getD_eq_getD_getElem?, h1]; rfl
  have hfx : fixL lits i o = { o with op := .move (.tmp x.t) } := by unfold fixL; rw [hfd]
  rw [hfx] at virt
  have rm : (execOp a.eval { o with op := .move (.tmp x.t) }).run P w = .ok (.value (a.eval (.tmp x.t))) w := by simp only [execOp]; rfl
  simp only [Oper.wp, rm, Oper.upon] at virt
  obtain ⟨v, G1, hv1, hS1, hE1, hd1⟩ := virt
  have hsh : w.shape? b = some (x.e, C.size) := by unfold World.shape?; rw [h3]
  have r2 : (execOp a.eval o).run P w = .ok (.value (.slice (some ⟨b, 0, none⟩) n n)) (w.freeze ⟨b, C.size, none⟩ 1) := by
   simp [execOp, hop, ev, convert, run_underlying (hT.undP_slice ht1), run_underlying (hT.undP_int ht2), markStringish, hsh]
  have hR := freeze_refr (k := C.size) (n := 1) h3
  simp only [Oper.wp, r2, Oper.upon]
  rw [← ev, hv1]
  have hi1 := (hE1.imm b h2).1
  refine k v G1 _ (hS1.refr hR h4 hi1) ((hr.2.1.ext hE1).refr hR) (hd1.refr hR) ((hx.trans hE1).refr hR h5 hi1) ⟨fun id hid => hE1.boxB id hid, fun ds hd => (hd.ext hE1).refr hR hi1⟩ ?_
  have hne : ∀ y ∈ lits, y.i ≠ i := by
   rintro y hy rfl
   obtain ⟨len, ps, o2, ho2, hop2, _⟩ := hF.bld y hy
   rw [ho] at ho2; injection ho2 with ho2; subst ho2
   rw [hop] at hop2; cases hop2
  have hI1 := (hI.ext hE1).put hF ho hne v
  intro y hy hA
  obtain ⟨b', C', fr', n', k1, k2, k3, k4, k5⟩ := hI1 y hy hA
  by_cases e : b' = b
  ·subst e
   obtain ⟨C2, e2, f2, f2', q1, q2⟩ := hR.cells
   rw [k3] at q1
   injection q1 with q1
   injection q1 with q1 q1' q1''
   subst q1; subst q1'
   exact ⟨b', C', f2', n', k1, k2, q2, k4, k5⟩
  ·exact ⟨b', C', fr', n', k1, k2, by rw [hR.other b' e]; exact k3, k4, k5⟩
 | none =>
  have hfx : fixL lits i o = o := by unfold fixL; rw [hfd]
  by_cases hb : ∃ x ∈ lits, x.i = i
  ·obtain ⟨x, hxm, hxi⟩ := hb
   obtain ⟨len, ps, o', ho', hop, hdst, hlen, _, hnew⟩ := hF.bld x hxm
   rw [hxi, ho] at ho'; injection ho' with ho'; subst ho'
   obtain ⟨ht1, ht2⟩ := hF.ty x hxm
   obtain ⟨C, xs, hn, hc⟩ := hnew τ s'
   rw [hfx] at virt hsl
   obtain ⟨ys, rfl, hyl⟩ := hsl _ _ _ hop
   unfold newD at hn
   simp only [ht1] at hn
   split at hn
   ·rename_i C' cs hf
    simp only [Option.some.injEq, Prod.mk.injEq, DV.slt.injEq] at hn
    obtain ⟨rfl, hxs⟩ := hn
    obtain ⟨hne, hsz', hs0, hzc, hfl, hst, hc⟩ := hc
    obtain ⟨rs, hrs, hrel⟩ := build_run hT ht1 hr hf hne hsz' hzc hc
    have r1 : (execOp a.eval o).run P w = .ok (.value (.slice (some ⟨w.heap.size, 0, none⟩) len len)) (w.alloc (.cells rs x.e)) := by
     simp only [execOp, hop, Sem.run_bind, hrs, Result.andThen_ok]
     rfl
    simp only [Oper.wp, r1, Oper.upon] at virt ⊢
    obtain ⟨v, G1, hv1, hS1, hE1, hd1⟩ := virt
    have hts := hsz x hxm
    have hv : v = .slice (some ⟨w.heap.size, 0, none⟩) len len := by
     have := congrArg (fun a => a.tmps.toList[x.t]?) hv1
     rw [hdst] at this
     simp only [Act.put, Array.toList_setIfInBounds] at this
     rw [List.getElem?_set_self (by simpa using hts), List.getElem?_set_self (by simpa using hts)] at this
     injection this with this
     exact this.symm
    subst hv
    have hown : G1.own w.heap.size = .imm := by
     cases hd1 with
     | slt _ _ _ st b o' vs hn' hA hst' hm hr' =>
      rcases hA with rfl | ⟨hA, hi⟩
      ·simp at hyl; omega
      ·injection hA with hA; injection hA with hA; rw [hA]; exact hi
    refine k _ G1 _ hS1 (hr.2.1.ext hE1) hd1 (hx.trans hE1) ⟨fun id hid => hE1.boxB id hid, fun ds hd => hd.ext hE1⟩ ?_
    intro y hy hA
    by_cases e : y.i = i
    ·obtain ⟨len2, ps2, o2, ho2, hop2, hdst2, _⟩ := hF.bld y hy
     rw [e, ho] at ho2; injection ho2 with ho2; subst ho2
     rw [hop] at hop2
     injection hop2 with q1 q2 q3
     rw [hdst] at hdst2
     injection hdst2 with hdst2
     have hee : y.e = x.e := by
      have := (hF.ty y hy).1
      rw [← q1, ht1] at this
      injection this with this
      exact this.symm
     refine ⟨w.heap.size, rs, (0, 0), len, ?_, hown, ?_, hr.2.2.below.size, fun h => ?_⟩
     ·rw [← hdst2, hdst]
      simp only [Act.put, Array.toList_setIfInBounds]
      rw [List.getElem?_set_self (by simpa using hts)]
     ·rw [hee]
      show (w.heap.push _)[w.heap.size]? = _
      simp
     ·have := hr.2.2.lt _ (by rw [(hx.imm _ h).1]; simp)
      omega
    ·simp only [plus] at hA
     rw [if_neg e] at hA
     obtain ⟨b', C', fr', n', k1, k2, k3, k4, k5⟩ := hI y hy hA
     obtain ⟨e1, e2⟩ := hE1.imm b' k2
     refine ⟨b', C', fr', n', ?_, e1, by rw [e2]; exact k3, k4, k5⟩
     rw [tmps_put_ne]
     ·exact k1
     ·intro h; exact e (hF.one y hy i o ho h).symm
   ·simp at hn
  ·rw [hfx] at hq
   refine hq w0 G a w _ _ hr (fun v G' w' h1 h2 h3 => k v G' w' h1 (hr.2.1.ext h2) h3 (hx.trans h2) ⟨fun id hid => h2.boxB id hid, fun ds hd => hd.ext h2⟩ ?_)
   exact (hI.ext h2).put hF ho (fun x hx e => hb ⟨x, hx, e⟩) v
end
end Go.Val
end

section
namespace Go.Val
open Go.RowKit
set_option linter.unusedSimpArgs false
set_option linter.unusedVariables false

def litL (lits : List Lit) (l : List Oper) : List Oper := l.mapIdx (fixL lits)
theorem litL_len (lits : List Lit) (l : List Oper) : (litL lits l).length = l.length := List.length_mapIdx
theorem litL_get (lits : List Lit) (l : List Oper) (i : Nat) : (litL lits l)[i]? = (l[i]?).map (fixL lits i) := List.getElem?_mapIdx
theorem litL_dst (lits : List Lit) (l : List Oper) (j : Nat) : ((litL lits l).toArray[j]?).bind (·.dst) = (l.toArray[j]?).bind (·.dst) := by
 simp only [List.getElem?_toArray, litL_get]
 cases l[j]? with
 | none => rfl
 | some o => simp only [Option.map_some, Option.bind_some, fixL_dst]
theorem wantedL (lits : List Lit) (l : List Oper) (s : List DV) (i : Nat) (o : Oper) : wantedD (litL lits l).toArray s (fixL lits i o) = wantedD l.toArray s o := by
 unfold wantedD
 rw [fixL_guard]
 cases o.guard with
 | none => rfl
 | some g => obtain ⟨j, w⟩ := g; simp only [litL_dst]
section
variable {P : Program} {T : TypeId → TI} {l : List Oper} {f : List Bool} {lits : List Lit}
theorem LitFacts.looks (hF : LitFacts P T l f lits) {x : Lit} (hx : x ∈ lits) {o : Oper} (ho : l[x.j]? = some o) : ∃ y, l[x.i]? = some y ∧ y.dst = some x.t ∧ x.t ∈ o.looksAt l.toArray := by
 obtain ⟨len, ps, y, hy, h1, h2, _⟩ := hF.bld x hx
 obtain ⟨o', ho', hop⟩ := hF.cnv x hx
 rw [ho] at ho'; injection ho' with ho'; subst ho'
 exact ⟨y, hy, h2, by simp [Oper.looksAt, hop, Op.operands]⟩
theorem looksL (hF : LitFacts P T l f lits) {i : Nat} {o : Oper} (ho : l[i]? = some o) : (fixL lits i o).looksAt (litL lits l).toArray = o.looksAt l.toArray := by
 unfold Oper.looksAt
 rw [fixL_guard]
 have h1 : (fixL lits i o).op.operands = o.op.operands := by
  unfold fixL
  split
  ·rename_i x hfd
   have hxm := List.mem_of_find?_eq_some hfd
   have hxj : x.j = i := by simpa using List.find?_some hfd
   obtain ⟨o', ho', hop⟩ := hF.cnv x hxm
   rw [hxj, ho] at ho'; injection ho' with ho'; subst ho'
   rw [hop]; rfl
  ·rfl
 rw [h1]
 cases o.guard with
 | none => rfl
 | some g => obtain ⟨j, w⟩ := g; simp only [litL_dst]
theorem LitFacts.noff (hF : LitFacts P T l f lits) {s : List DV} {i : Nat} {o : Oper} (ho : l[i]? = some o) (h : wantedD l.toArray s o = some false) : ∀ x ∈ lits, x.i ≠ i := by
 rintro x hx rfl
 obtain ⟨len, ps, y, hy, h1, h2, h3, h4, _⟩ := hF.bld x hx
 rw [ho] at hy; injection hy with hy; subst hy
 unfold wantedD at h
 rw [h4] at h; cases h
theorem LitFacts.nofl (hF : LitFacts P T l f lits) {i : Nat} {o : Oper} (ho : l[i]? = some o) (h : f.getD i false = true) : ∀ x ∈ lits, x.i ≠ i := by
 rintro x hx rfl
 rw [(hF.fl x hx).1] at h; cases h
theorem LitFacts.noal (hF : LitFacts P T l f lits) {i : Nat} {o : Oper} {e : TypeId} (ho : l[i]? = some o) (h : o.op = .alloc e) : ∀ x ∈ lits, x.i ≠ i := by
 rintro x hx rfl
 obtain ⟨len, ps, y, hy, h1, _⟩ := hF.bld x hx
 rw [ho] at hy; injection hy with hy; subst hy
 rw [h] at h1; cases h1
def StepL (P : Program) (E : Store → Prop) (l : List Oper) (f : List Bool) (lits : List Lit) (i : Nat) (o : Oper) (s : List DV) (σ : Store) (d : DV) (σ' : Store) : Prop :=
 (wantedD l.toArray s o = some false ∧ f.getD i false = false ∧ d = .tup [] ∧ σ' = σ) ∨
 (wantedD l.toArray s o = some true ∧ f.getD i false = false ∧ σ' = σ ∧ (∀ t n ps, (fixL lits i o).op = .buildSlice t n ps → ∃ xs, d = .slt xs ∧ xs.length = n) ∧ ∀ τ, E τ → ∀ s', agree (o.looksAt l.toArray) s s' → Quiet P τ s' (fixL lits i o) d) ∨
 (wantedD l.toArray s o = some true ∧ f.getD i false = true ∧ StableE P l.toArray s σ o d σ')
theorem steps_lit {E : Store → Prop} {g : List Bool} {ss : Nat → List DV} {st : Nat → Store} {d : Nat → DV} (hF : LitFacts P T l f lits)
  (hS : ∀ i o, (litL lits l)[i]? = some o → (g.getD i false = true → ss (i + 1) = ss i ∧ st (i + 1) = st i ∧ d i = .undef) ∧ (g.getD i false = false → StepAt P E (litL lits l).toArray f i o (ss i) (st i) (d i) (st (i + 1)) ∧ ss (i + 1) = putS (ss i) o.dst (d i))) :
  ∀ i o, l[i]? = some o → (g.getD i false = true → ss (i + 1) = ss i ∧ st (i + 1) = st i ∧ d i = .undef) ∧ (g.getD i false = false → StepL P E l f lits i o (ss i) (st i) (d i) (st (i + 1)) ∧ ss (i + 1) = putS (ss i) o.dst (d i)) := by
 intro i o ho
 obtain ⟨h1, h2⟩ := hS i (fixL lits i o) (by rw [litL_get, ho]; rfl)
 refine ⟨h1, fun hg => ?_⟩
 obtain ⟨h3, h4⟩ := h2 hg
 rw [fixL_dst] at h4
 refine ⟨?_, h4⟩
 rcases h3 with ⟨k1, k2, k3, k4⟩ | ⟨k1, k2, k3, k4, k5⟩ | ⟨k1, k2, k3⟩
 ·rw [wantedL] at k1; exact .inl ⟨k1, k2, k3, k4⟩
 ·rw [wantedL] at k1
  refine .inr (.inl ⟨k1, k2, k3, k4, ?_⟩)
  rw [looksL hF ho] at k5
  exact k5
 ·rw [wantedL] at k1
  refine .inr (.inr ⟨k1, k2, ?_⟩)
  have hfx : fixL lits i o = o := fixL_none (fun x hx e => by rw [← e, (hF.fl x hx).2] at k2; cases k2)
  have hl := looksL hF ho
  rw [hfx] at hl k3
  obtain ⟨m1, m2⟩ := k3
  refine ⟨m1, ?_⟩
  rw [hl] at m2
  exact m2
end

section
variable {P : Program} {T : TypeId → TI} {l : List Oper} {f g : List Bool} {cs : List Cre} {n0 : Nat}
theorem draw_fullL {lits : List Lit} (hF : LitFacts P T l f lits) (hT : TOK P T) {slots : List DV} {st0 : Store} {E : Store → Prop} {Q : Exit → St → Prop} {ss : Nat → List DV} {st : Nat → Store} {d : Nat → DV} (hb : ∀ j y, l[j]? = some y → ∀ i ∈ bound y, i < j)
  (hcf : ∀ i j x y, l[i]? = some x → l[j]? = some y → i < j → conflict l.toArray f i j x y = true → i ∈ (closG l).getD j [])
  (hg : ∀ i, g.getD i false = isCre cs i) (hfc : ∀ i, isCre cs i = true → f.getD i false = false) (hno : ∀ i o, l[i]? = some o → isCre cs i = false → ∀ t, o.dst = some t → creT cs t = none)
  (hci : ∀ i o, l[i]? = some o → isCre cs i = true → ∃ t k, o.dst = some t ∧ creT cs t = some k)
  (h0 : ss 0 = pat cs n0 slots) (hK : Q .normal ⟨ss l.length, st l.length⟩) (hE : ∀ i, i ≤ l.length → E (st i))
  (hS : ∀ i o, l[i]? = some o → (g.getD i false = true → ss (i + 1) = ss i ∧ st (i + 1) = st i ∧ d i = .undef) ∧ (g.getD i false = false → StepL P E l f lits i o (ss i) (st i) (d i) (st (i + 1)) ∧ ss (i + 1) = putS (ss i) o.dst (d i)))
  (hts : ∀ x ∈ lits, x.t < slots.length)
  (w0 : World) (G0 : Gh) (σ0 : Store) (W0 : World) : ∀ (fuel : Nat) (A : Array Bool) (G : Gh) (a : Act) (w : World), A.size = l.length → A.toList.countP (fun b => !b) ≤ fuel →
   (∀ j y, l[j]? = some y → A.getD j false = true → ∀ i ∈ bound y, A.getD i false = true) → (∀ i, i < l.length → isCre cs i = true → A.getD i false = true) →
   RelS w0 G ⟨pat cs n0 (slAt l slots d (fun i => A.getD i false) l.length), stAt (wrs l f) st (fun i => A.getD i false) l.length⟩ a w → Ext G0 σ0 W0 G (stAt (wrs l f) st (fun i => A.getD i false) l.length) w →
   LInv lits (fun i => A.getD i false) w0 G0 G a w →
   wpAny P .any l.toArray (Post w0 G0 σ0 W0 Q) fuel A a w := by
 let LL : Array Bool → Nat → Bool := fun A i => A.getD i false
 have hss : ∀ i, i ≤ l.length → pat cs n0 (slAt l slots d (fun _ => true) i) = ss i := by
  intro i
  induction i with
  | zero => intro _; rw [h0]; rfl
  | succ i ih =>
   intro hi
   have hy : l[i]? = some l[i] := List.getElem?_eq_getElem (by omega)
   simp only [slAt, if_true, hy, Option.bind_some]
   obtain ⟨h1, h2⟩ := hS i _ hy
   cases hgi : g.getD i false with
   | true =>
    obtain ⟨k1, k2, k3⟩ := h1 hgi
    rw [hg] at hgi
    obtain ⟨t, k, ht, hk⟩ := hci i _ hy hgi
    rw [k1, ht, k3, pat_undef hk, ih (by omega)]
   | false =>
    obtain ⟨k1, k2⟩ := h2 hgi
    rw [hg] at hgi
    rw [k2, pat_put (fun x hx => hno i _ hy hgi x hx), ih (by omega)]
 have hstK : ∀ k, k < l.length → (wrs l f).getD k false = false → st (k + 1) = st k := by
  intro k hk hfk
  rw [wrs_get (List.getElem?_eq_getElem hk)] at hfk
  obtain ⟨h1, h2⟩ := hS k _ (List.getElem?_eq_getElem hk)
  cases hgi : g.getD k false with
  | true => exact (h1 hgi).2.1
  | false =>
   rcases (h2 hgi).1 with ⟨_, _, _, h⟩ | ⟨_, _, h, _, _⟩ | ⟨_, h, h2, _⟩
   ·exact h
   ·exact h
   ·rw [h] at hfk; exact h2 (by simpa using hfk)
 have done : ∀ (A : Array Bool) (G : Gh) (a : Act) (w : World), A.size = l.length → RelS w0 G ⟨pat cs n0 (slAt l slots d (LL A) l.length), stAt (wrs l f) st (LL A) l.length⟩ a w → Ext G0 σ0 W0 G (stAt (wrs l f) st (LL A) l.length) w →
   Region.ready .any l.toArray A = [] → Post w0 G0 σ0 W0 Q .normal a w := by
  intro A G a w hA hr hx hn
  have hall := ready_nil hb hA hn
  have e1 : pat cs n0 (slAt l slots d (LL A) l.length) = ss l.length := by
   rw [← hss _ (Nat.le_refl _)]
   congr 1
   exact slAt_ext (fun j hj => hall j hj)
  have e2 : stAt (wrs l f) st (LL A) l.length = st l.length := by
   rw [stAt_lt (i := l.length) (n := l.length) (fun j hj _ _ => hj) hstK (fun j hj _ _ => hall j hj) _ (Nat.le_refl _), Nat.min_self]
  rw [e1, e2] at hr
  rw [e2] at hx
  exact ⟨_, G, hK, hr, hx⟩
 intro fuel
 induction fuel with
 | zero =>
  intro A G a w hA hc hcl hfull hr hx hI
  have hn : Region.ready .any l.toArray A = [] := by
   refine List.eq_nil_iff_forall_not_mem.2 fun i hi => ?_
   obtain ⟨h1, h2, _⟩ := mem_ready.1 hi
   have h3 : A.toList.countP (fun b => !b) = 0 := by omega
   rw [List.countP_eq_zero] at h3
   have := h3 A[i] (by simp)
   rw [Array.getD_eq_getD_getElem?, Array.getElem?_eq_getElem (by omega)] at h2
   simp only [Option.getD_some] at h2
   rw [h2] at this
   simp at this
  exact ⟨hn, done A G a w hA hr hx hn⟩
 | succ fuel ih =>
  intro A G a w hA hc hcl hfull hr hx hI
  refine ⟨done A G a w hA hr hx, fun i hi => ?_⟩
  obtain ⟨hin, hAi, o, ho, hdep⟩ := mem_ready.1 hi
  have hAg : A[i]'(by omega) = false := by
   rw [Array.getD_eq_getD_getElem?, Array.getElem?_eq_getElem (by omega)] at hAi
   simpa using hAi
  have hLi : LL A i = false := by
   show A.getD i false = false
   rw [Array.getD_eq_getD_getElem?, Array.getElem?_eq_getElem (by omega)]
   simpa using hAg
  have hci' : isCre cs i = false := by
   cases h : isCre cs i with
   | false => rfl
   | true => exact absurd ((hfull i hin h).symm.trans hLi) (by simp)
  have hpre : ∀ j x, l[j]? = some x → j < i → conflict l.toArray f j i x o = true → LL A j = true := fun j x hx hj hcf' =>
   clos_closed' hb o ho hcl hdep j (hcf j i x o hx ho hj hcf')
  have hpost : ∀ j y, l[j]? = some y → i < j → conflict l.toArray f i j o y = true → LL A j = false := fun j y hy hj hcf' => by
   cases hLj : LL A j with
   | false => rfl
   | true =>
    have := clos_closed hb hcl j (List.getElem?_eq_some_iff.1 hy).1 hLj i (hcf i j o y ho hy hj hcf')
    exact absurd (hLi.symm.trans this) (by simp)
  have hag : agree (o.looksAt l.toArray) (ss i) (pat cs n0 (slAt l slots d (LL A) l.length)) := by
   intro t ht
   have := slAt_agree (l := l) (s0 := slots) (d := d) (L := LL A) (i := i) (t := t) (fun j hj => by
    cases hy : l[j]? with
    | none => rw [hy] at hj; simp at hj
    | some y =>
     rw [hy] at hj
     simp only [Option.bind_some] at hj
     rcases Nat.lt_trichotomy j i with h | h | h
     ·exact ⟨fun _ => h, fun _ => hpre j y hy h (by simp [conflict, hj, ht])⟩
     ·subst h; exact ⟨fun h => absurd (hLi.symm.trans h) (by simp), fun h => by omega⟩
     ·exact ⟨fun h' => absurd ((hpost j y hy h (by simp [conflict, hj, ht])).symm.trans h') (by simp), fun h' => by omega⟩) l.length
   rw [show min i l.length = i by omega] at this
   rw [← hss i (by omega)]
   exact pat_getD this (by rw [slAt_len, slAt_len])
  have hwd := wanted_looks (s' := pat cs n0 (slAt l slots d (LL A) l.length)) hag
  obtain ⟨hstep, hput⟩ := (hS i o ho).2 (by rw [hg]; exact hci')
  have hpl : LL (A.setIfInBounds i true) = plus (LL A) i := by
   funext j
   show (A.setIfInBounds i true).getD j false = _
   rw [Array.getD_eq_getD_getElem?, Array.getElem?_setIfInBounds]
   by_cases e : i = j
   ·subst e; rw [if_pos rfl, if_pos (by omega)]; simp [plus]
   ·rw [if_neg e, ← Array.getD_eq_getD_getElem?]
    simp only [plus]
    rw [if_neg (Ne.symm e)]
  have hsl : pat cs n0 (slAt l slots d (plus (LL A) i) l.length) = putS (pat cs n0 (slAt l slots d (LL A) l.length)) o.dst (d i) := by
   have := slAt_plus (l := l) (s0 := slots) (d := d) (L := LL A) (i := i) hLi (fun j hj hLj t ht hjt => by
    rw [ho] at ht
    cases hy : l[j]? with
    | none => rw [hy] at hjt; simp at hjt
    | some y =>
     rw [hy] at hjt
     simp only [Option.bind_some] at ht hjt
     have := hpost j y hy hj (by simp [conflict, ht, hjt])
     rw [hLj] at this; cases this) l.length hin
   rw [this, ho, ← pat_put (fun x hx => hno i o ho hci' x hx)]; rfl
  have next : ∀ (G' : Gh) (v' : Value) (w' : World) (σ' : Store), stAt (wrs l f) st (plus (LL A) i) l.length = σ' → Dfs G' w' a.defers → RelL G' σ' w' (pat cs n0 (slAt l slots d (LL A) l.length)) a.tmps.toList → RelV G' σ' w' (d i) v' → StoreRel w0 G' σ' w' →
    Ext G0 σ0 W0 G' σ' w' → LInv lits (plus (LL A) i) w0 G0 G' (a.put o.dst v') w' → wpAny P .any l.toArray (Post w0 G0 σ0 W0 Q) fuel (A.setIfInBounds i true) (a.put o.dst v') w' := by
   intro G' v' w' σ' hσ' hd hrl hv hS' hx' hI'
   refine ih _ G' _ w' (by simpa using hA) ?_ ?_ ?_ ?_ ?_ ?_
   ·rw [Array.toList_setIfInBounds, List.countP_set (by simpa using (by omega : i < A.size))]
    have hp : 0 < A.toList.countP (fun b => !b) := List.countP_pos_iff.2 ⟨A[i], by simp, by rw [hAg]; rfl⟩
    have : A.toList[i]'(by simpa using (by omega : i < A.size)) = false := by simpa using hAg
    rw [this]
    simp only [Bool.not_false, if_true, Bool.not_true, Bool.false_eq_true, if_false]
    omega
   ·show ∀ j y, l[j]? = some y → LL (A.setIfInBounds i true) j = true → ∀ k ∈ bound y, LL (A.setIfInBounds i true) k = true
    rw [hpl]
    intro j y hy hLj k hk
    simp only [plus] at hLj ⊢
    by_cases e : k = i
    ·rw [if_pos e]
    ·rw [if_neg e]
     by_cases e' : j = i
     ·subst e'
      rw [ho] at hy; injection hy with hy; subst hy
      exact hdep k hk
     ·rw [if_neg e'] at hLj
      exact hcl j y hy hLj k hk
   ·intro j hj hcj
    show LL (A.setIfInBounds i true) j = true
    rw [hpl]
    simp only [plus]
    split
    ·rfl
    ·exact hfull j hj hcj
   ·show RelS w0 G' ⟨pat cs n0 (slAt l slots d (LL (A.setIfInBounds i true)) l.length), stAt (wrs l f) st (LL (A.setIfInBounds i true)) l.length⟩ _ w'
    rw [hpl, hsl, hσ']
    refine ⟨by rw [put_defers]; exact hd, ?_, hS'⟩
    have := RelL_put hrl hv o.dst
    rw [putS_eq] at this
    exact this
   ·show Ext G0 σ0 W0 G' (stAt (wrs l f) st (LL (A.setIfInBounds i true)) l.length) w'
    rw [hpl, hσ']; exact hx'
   ·show LInv lits (LL (A.setIfInBounds i true)) w0 G0 G' _ w'
    rw [hpl]; exact hI'
  have hsz : ∀ x ∈ lits, x.t < a.tmps.size := fun x hx => by
   have h1 := hr.2.1.1
   rw [pat_len, slAt_len] at h1
   rw [Array.length_toList] at h1
   rw [h1]; exact hts x hx
  have hdep' : ∀ x ∈ lits, x.j = i → LL A x.i = true := fun x hxm e => by
   obtain ⟨y, hy1, hy2⟩ := hF.looks hxm (e ▸ ho)
   exact hpre x.i y hy1 (e ▸ hF.lt x hxm) (by simp [conflict, hy2.1, hy2.2])
  unfold wpOp
  rw [show l.toArray[i]? = some o by simpa using ho]
  simp only
  rcases hstep with ⟨h1, h2, h3, h4⟩ | ⟨h1, h2, h3, hbl, h4⟩ | ⟨h1, h2, h3⟩
  ·rw [if_neg (by rw [wanted_rel hr.2.1 (hwd.trans h1)]; simp)]
   refine next G _ w _ ?_ hr.1 hr.2.1 (by rw [h3]; exact .tup [] [] rfl (fun i c v hc => by simp at hc)) hr.2.2 hx (hI.put hF ho (hF.noff ho h1) _)
   exact stAt_ext (fun j _ hfj => by simp only [plus]; rw [if_neg (by rintro rfl; rw [wrs_get ho, h2] at hfj; simp at hfj)])
  ·rw [if_pos (wanted_rel hr.2.1 (hwd.trans h1))]
   refine .inl ?_
   obtain ⟨k, hk, hst⟩ := stAt_mem (f := wrs l f) (st := st) (L := LL A) l.length
   have hr1 : RelS w0 G ⟨pat cs n0 (slAt l slots d (LL A) l.length), stAt (wrs l f) st (LL A) l.length⟩ a w := hr
   have hx1 : Ext G0 σ0 W0 G (stAt (wrs l f) st (LL A) l.length) w := hx
   rw [hst] at hr1 hx1
   refine lit_step hF hT ho (h4 _ (hE k hk) _ hag) hbl hr1 hx1 hI hdep' hsz ?_
   intro v G' w' hS' hrl' hv hx' hbd hI'
   refine next G' v w' _ ?_ (hbd.2 _ hr.1) hrl' hv hS' hx' hI'
   rw [← hst]
   exact stAt_ext (fun j _ hfj => by simp only [plus]; rw [if_neg (by rintro rfl; rw [wrs_get ho, h2] at hfj; simp at hfj)])
  ·rw [if_pos (wanted_rel hr.2.1 (hwd.trans h1))]
   refine .inl ?_
   have eqi : stAt (wrs l f) st (LL A) l.length = st i := by
    rw [stAt_lt (i := i) (n := l.length) (fun j hj hfj hLj => ?_) hstK (fun j hj hji hfj => ?_) _ (Nat.le_refl _), show min i l.length = i by omega]
    ·rcases Nat.lt_trichotomy j i with h | h | h
     ·exact h
     ·subst h; rw [hLi] at hLj; cases hLj
     ·have hw := wrs_true (List.getElem?_eq_getElem hj) hfj
      have := hpost j _ (List.getElem?_eq_getElem hj) h (conflict_w h2 hw.1 (.inr hw.2))
      rw [hLj] at this; cases this
    ·have hw := wrs_true (List.getElem?_eq_getElem hj) hfj
     exact hpre j _ (List.getElem?_eq_getElem hj) hji (conflict_w hw.1 h2 (.inl hw.2))
   have eqi' : stAt (wrs l f) st (plus (LL A) i) l.length = st (i + 1) := by
    rw [stAt_lt (i := i + 1) (n := l.length) (fun j hj hfj hLj => ?_) hstK (fun j hj hji hfj => ?_) _ (Nat.le_refl _), show min (i + 1) l.length = i + 1 by omega]
    ·simp only [plus] at hLj
     by_cases e : j = i
     ·omega
     ·rw [if_neg e] at hLj
      rcases Nat.lt_trichotomy j i with h | h | h
      ·omega
      ·omega
      ·have hw := wrs_true (List.getElem?_eq_getElem hj) hfj
       have := hpost j _ (List.getElem?_eq_getElem hj) h (conflict_w h2 hw.1 (.inr hw.2))
       rw [hLj] at this; cases this
    ·simp only [plus]
     by_cases e : j = i
     ·rw [if_pos e]
     ·rw [if_neg e]
      have hw := wrs_true (List.getElem?_eq_getElem hj) hfj
      exact hpre j _ (List.getElem?_eq_getElem hj) (by omega) (conflict_w hw.1 h2 (.inl hw.2))
   have hr' : RelS w0 G ⟨pat cs n0 (slAt l slots d (LL A) l.length), stAt (wrs l f) st (LL A) l.length⟩ a w := hr
   have hx1 : Ext G0 σ0 W0 G (stAt (wrs l f) st (LL A) l.length) w := hx
   rw [eqi] at hr' hx1
   refine h3.2 _ hag w0 G a w _ _ hr' ?_
   rintro v r σ' G' w' ⟨rfl, rfl⟩ hS' hE' hd
   exact next G' v w' _ eqi' (hr'.1.ext hE') (hr'.2.1.ext hE') hd hS' (hx1.trans hE') ((hI.ext hE').put hF ho (hF.nofl ho h2) _)

theorem Ev_drawL {lits : List Lit} (hF : LitFacts P T l f lits) {id : Nat} {slots : List DV} {R : List (Option Row)} {bx : List (Option Box)} {M : List (Option (List (DV × DV)))} {Q : Exit → St → Prop} (hm : P.follows .mixedOrders = true) (hT : TOK P T)
  (E : Store → Prop) (hE0 : ∀ r, E ⟨R, bx ++ r, M⟩) (hf : fit l f = true) (hc : creOK l f g cs = true) (hty : ∀ c ∈ cs, (T c.ty).ty ≠ .other ∧ nameds 0 0 0 (ofVal (T c.ty).zero).cells = true)
  (hts : ∀ x ∈ lits, x.t < slots.length)
  (h : DrwC P E (litL lits l).toArray (litL lits l) f g (pat cs bx.length slots) ⟨R, bx ++ (cs.map (boxC T)).map some, M⟩ (fun s τ => Q .normal ⟨s, τ⟩)) : Ev P (.region id l.toArray true) ⟨slots, ⟨R, bx, M⟩⟩ Q := by
 intro w0 G0 σ0 W0 G a w hx hr
 obtain ⟨ss, st, d, h0, hst0, hK, hE, hS'⟩ := h.steps
 rw [litL_len] at hK hE
 have hS := steps_lit hF hS'
 clear hS'
 obtain ⟨hb, hcf⟩ := fit_spec hf
 simp only [creOK, Bool.and_eq_true, List.all_eq_true, List.mem_range, decide_eq_true_eq] at hc
 obtain ⟨⟨⟨⟨hc1, hn1⟩, hn2⟩, hgl⟩, hc2⟩ := hc
 have hcat : ∀ c ∈ cs, ∃ o, l[c.at_]? = some o ∧ o.op = .alloc c.ty ∧ o.dst = some c.tmp ∧ o.guard = none ∧ f.getD c.at_ false = false := by
  intro c hcc
  obtain ⟨h1, h2⟩ := hc1 c hcc
  cases ho : l[c.at_]? with
  | none => rw [ho] at h1; simp at h1
  | some o =>
   rw [ho] at h1
   simp only [Bool.and_eq_true, beq_iff_eq, Option.isNone_iff_eq_none] at h1
   obtain ⟨⟨h3, h4⟩, h5⟩ := h1
   refine ⟨o, rfl, ?_, h4, h5, by simpa using h2⟩
   split at h3
   ·rename_i e he
    rw [he]; congr 1; simpa using h3
   ·cases h3
 have hcl : ∀ c ∈ cs, c.at_ < l.length := fun c hcc => by obtain ⟨o, ho, _⟩ := hcat c hcc; exact (List.getElem?_eq_some_iff.1 ho).1
 have hat : ∀ c ∈ cs, ∀ c' ∈ cs, c.at_ = c'.at_ → c = c' := by
  intro c h1 c' h2 e
  obtain ⟨i, hi, rfl⟩ := List.getElem_of_mem h1
  obtain ⟨j, hj, rfl⟩ := List.getElem_of_mem h2
  have := (List.getElem_inj (i := i) (j := j) (h₀ := by simpa using hi) (h₁ := by simpa using hj) hn1).1 (by simpa using e)
  subst this; rfl
 have hcnd : cs.Nodup := (List.pairwise_map.1 hn1).imp (fun h e => h (congrArg _ e))
 have hgs : ∀ i, g.getD i false = isCre cs i := by
  intro i
  by_cases hi : i < l.length
  ·have := hc2 i hi
   rw [List.getElem?_eq_getElem hi] at this
   simp only [Bool.and_eq_true, beq_iff_eq] at this
   exact this.1
  ·rw [List.getD_eq_getElem?_getD, List.getElem?_eq_none (by omega)]
   cases hci : isCre cs i with
   | false => rfl
   | true => obtain ⟨c, hcc, rfl⟩ := isCre_iff.1 hci; exact absurd (hcl c hcc) hi
 have hoth : ∀ i o, l[i]? = some o → isCre cs i = false → (∀ t, o.dst = some t → creT cs t = none) ∧ ((f.getD i false = true ∨ ∃ t ∈ o.looksAt l.toArray, creT cs t ≠ none) → ∀ c ∈ cs, c.at_ ∈ (closG l).getD i []) := by
  intro i o ho hci
  have := hc2 i (List.getElem?_eq_some_iff.1 ho).1
  rw [ho] at this
  simp only [hci, Bool.false_or, Bool.and_eq_true] at this
  obtain ⟨_, h1, h2⟩ := this
  refine ⟨fun t ht => ?_, fun hh c hcc => ?_⟩
  ·rw [ht] at h1; simpa using h1
  ·rw [Bool.or_eq_true] at h2
   rcases h2 with h2 | h2
   ·exfalso
    rw [Bool.not_eq_true', Bool.or_eq_false_iff] at h2
    rcases hh with hh | ⟨t, ht, hh⟩
    ·rw [h2.1] at hh; cases hh
    ·have := List.any_eq_false.1 h2.2 t ht
     cases hq : creT cs t with
     | none => exact hh hq
     | some i => rw [hq] at this; simp at this
   ·exact closB_spec l i c.at_ (List.all_eq_true.1 h2 c hcc)
 have hno : ∀ i o, l[i]? = some o → isCre cs i = false → ∀ t, o.dst = some t → creT cs t = none := fun i o ho hci => (hoth i o ho hci).1
 have hci : ∀ i o, l[i]? = some o → isCre cs i = true → ∃ t k, o.dst = some t ∧ creT cs t = some k := by
  intro i o ho hh
  obtain ⟨c, hcc, rfl⟩ := isCre_iff.1 hh
  obtain ⟨o', ho', _, hd, _⟩ := hcat c hcc
  rw [ho] at ho'; injection ho' with ho'; subst ho'
  obtain ⟨k, hk, rfl⟩ := List.getElem_of_mem hcc
  exact ⟨_, k, hd, creT_some hn2 (List.getElem?_eq_getElem hk)⟩
 have hfc : ∀ i, isCre cs i = true → f.getD i false = false := by
  intro i hh
  obtain ⟨c, hcc, rfl⟩ := isCre_iff.1 hh
  obtain ⟨o, _, _, _, _, hfo⟩ := hcat c hcc
  exact hfo
 have full := draw_fullL (P := P) hF hT (n0 := bx.length) (slots := slots) (st0 := ⟨R, bx, M⟩) hb hcf hgs hfc hno hci h0 hK hE hS hts w0 G0 σ0 W0
 have hss : ∀ i, i ≤ l.length → pat cs bx.length (slAt l slots d (fun _ => true) i) = ss i := by
  intro i
  induction i with
  | zero => intro _; rw [h0]; rfl
  | succ i ih =>
   intro hi
   have hy : l[i]? = some l[i] := List.getElem?_eq_getElem (by omega)
   simp only [slAt, if_true, hy, Option.bind_some]
   obtain ⟨h1, h2⟩ := hS i _ hy
   cases hgi : g.getD i false with
   | true =>
    obtain ⟨k1, k2, k3⟩ := h1 hgi
    rw [hgs] at hgi
    obtain ⟨t, k, ht, hk⟩ := hci i _ hy hgi
    rw [k1, ht, k3, pat_undef hk, ih (by omega)]
   | false =>
    obtain ⟨k1, k2⟩ := h2 hgi
    rw [hgs] at hgi
    rw [k2, pat_put (fun x hx => hno i _ hy hgi x hx), ih (by omega)]
 have hNM := hr.2.2.names
 have hx0 := hx.boxesLen
 have hx1 := hx.rowsLen
 have hx2 := hx.mapsLen
 simp only at hx0 hx1 hx2
 let LL : Array Bool → Nat → Bool := fun A i => A.getD i false
 have htr : ∀ π : List Cre, (⟨R, bx ++ π.map fun c => some (boxC T c), M⟩ : Store).trunc R.length bx.length M.length = ⟨R, bx, M⟩ := by
  intro π; simp [Store.trunc]
 have complete : ∀ (fuel : Nat) (A : Array Bool) (π : List Cre) (G : Gh) (a : Act) (w : World), A.size = l.length → A.toList.countP (fun b => !b) ≤ fuel →
   (∀ j y, l[j]? = some y → LL A j = true → ∀ i ∈ bound y, LL A i = true) → (∀ c ∈ cs, c ∈ π) → (∀ c ∈ cs, LL A c.at_ = true ↔ c ∈ π) → (∀ j, j < l.length → f.getD j false = true → LL A j = false) →
   RelS w0 G ⟨slAt l slots d (LL A) l.length, ⟨R, bx ++ π.map fun c => some (boxC T c), M⟩⟩ a w →
   (∀ (p : Nat) (c : Cre), π[p]? = some c → ∀ v : Value, a.tmps.toList[c.tmp]? = some v → v = Value.pointer (some ⟨G.boxB (bx.length + p), 0, none⟩)) →
   nameds R.length bx.length M.length (slAt l slots d (LL A) l.length) = true →
   Ext G0 σ0 W0 G ⟨R, bx ++ π.map fun c => some (boxC T c), M⟩ w → LInv lits (LL A) w0 G0 G a w → wpAny P .any l.toArray (Post w0 G0 σ0 W0 Q) fuel A a w := by
  intro fuel A π G a w hA hcn hcl' hall hiff hfl hr hp hn hx hI
  have hS1 := hr.2.2.trunc (r := R.length) (b := bx.length) (m := M.length) (Nat.le_refl _) (by simp) (Nat.le_refl _) (by rw [htr]; exact hNM)
  rw [htr] at hS1
  have hL1 := hr.2.1.trunc (r := R.length) (b := bx.length) (m := M.length) (Nat.le_refl _) (by simp) (Nat.le_refl _) hn
  rw [htr] at hL1
  have hE1 := hx.trunc2 hx1 hx0 hx2
  rw [htr] at hE1
  have hpn : ∀ i (hi : i < cs.length), π.idxOf cs[i] < π.length := fun i hi => List.idxOf_lt_length_of_mem (hall _ (List.getElem_mem hi))
  have hpg : ∀ i (hi : i < cs.length), π[π.idxOf cs[i]]? = some cs[i] := fun i hi => by rw [List.getElem?_eq_getElem (hpn i hi), List.getElem_idxOf]
  have key := adopt (bs := cs.map (boxC T)) (gb := fun i => G.boxB (bx.length + π.idxOf (cs.getD i ⟨0, 0, 0⟩))) (pn := fun i => π.idxOf (cs.getD i ⟨0, 0, 0⟩)) hS1 (fun i j hi hj e => by
    simp only [List.length_map] at hi hj
    simp only [List.getD_eq_getElem?_getD, List.getElem?_eq_getElem hi, List.getElem?_eq_getElem hj, Option.getD_some] at e
    have e2 : π[π.idxOf cs[i]]? = π[π.idxOf cs[j]]? := by rw [e]
    rw [hpg i hi, hpg j hj] at e2
    injection e2 with e2
    exact (List.getElem_inj hcnd).1 e2) (fun i B hB => by
    rw [List.getElem?_map] at hB
    cases hq : cs[i]? with
    | none => rw [hq] at hB; simp at hB
    | some c =>
     rw [hq] at hB
     simp only [Option.map_some, Option.some.injEq] at hB
     subst hB
     obtain ⟨hi, rfl⟩ := List.getElem?_eq_some_iff.1 hq
     simp only [List.getD_eq_getElem?_getD, List.getElem?_eq_getElem hi, Option.getD_some]
     obtain ⟨k1, arr, k2, k3⟩ := hr.2.2.boxes (bx.length + π.idxOf cs[i]) (boxC T cs[i]) (by
      simp only
      rw [List.getElem?_append_right (by omega), Nat.add_sub_cancel_left, List.getElem?_map, hpg i hi]; rfl)
     refine ⟨k1, arr, k2, ?_⟩
     have := k3.trunc (r := R.length) (b := bx.length) (m := M.length) (Nat.le_refl _) (by simp) (Nat.le_refl _) (nameds_mono (Nat.zero_le _) (Nat.zero_le _) (Nat.zero_le _) _ (hty _ (List.getElem_mem hi)).2)
     rw [htr] at this
     exact this)
  obtain ⟨key1, key2⟩ := key
  obtain ⟨G', hG'⟩ : ∃ G', G' = adoptG G bx.length (cs.map (boxC T)).length fun i => G.boxB (bx.length + π.idxOf (cs.getD i ⟨0, 0, 0⟩)) := ⟨_, rfl⟩
  rw [← hG'] at key1 key2
  have est : stAt (wrs l f) st (LL A) l.length = ⟨R, bx ++ (cs.map (boxC T)).map some, M⟩ := by
   rw [stAt_none, hst0]
   intro j hj hw
   exact hfl j hj (wrs_true (List.getElem?_eq_getElem hj) hw).1
  refine full fuel A G' a w hA hcn hcl' (fun i hi hh => ?_) (?_ : RelS w0 G' ⟨pat cs bx.length (slAt l slots d (LL A) l.length), stAt (wrs l f) st (LL A) l.length⟩ a w) (?_ : Ext G0 σ0 W0 G' (stAt (wrs l f) st (LL A) l.length) w) (hI.ext key2)
  ·obtain ⟨c, hcc, rfl⟩ := isCre_iff.1 hh
   exact (hiff c hcc).2 (hall c hcc)
  ·rw [est]
   refine ⟨hr.1.ext key2, ⟨by rw [pat_len]; exact hL1.1, fun t c v hc' hv => ?_⟩, key1⟩
   rw [pat_get] at hc'
   cases hq : (slAt l slots d (LL A) l.length)[t]? with
   | none => rw [hq] at hc'; simp at hc'
   | some x =>
    rw [hq] at hc'
    simp only [Option.map_some, Option.some.injEq] at hc'
    cases hk : creT cs t with
    | none =>
     rw [hk] at hc'
     simp only at hc'
     subst hc'
     exact (hL1.2 t x v hq hv).ext key2
    | some i =>
     rw [hk] at hc'
     simp only at hc'
     subst hc'
     obtain ⟨c, hci', rfl⟩ := creT_get hk
     obtain ⟨hi, rfl⟩ := List.getElem?_eq_some_iff.1 hci'
     rw [hp _ _ (hpg i hi) v hv]
     have e : G'.boxB (bx.length + i) = G.boxB (bx.length + π.idxOf cs[i]) := by
      rw [hG']
      simp only [adoptG, List.length_map]
      rw [if_pos (by omega), Nat.add_sub_cancel_left, List.getD_eq_getElem?_getD, List.getElem?_eq_getElem hi]
      rfl
     rw [← e]
     exact .ptr _ 0 (by simp; omega)
  ·rw [est]
   exact hE1.trans key2
 have pre : ∀ (fuel : Nat) (A : Array Bool) (π : List Cre) (G : Gh) (a : Act) (w : World), A.size = l.length → A.toList.countP (fun b => !b) ≤ fuel →
   (∀ j y, l[j]? = some y → LL A j = true → ∀ i ∈ bound y, LL A i = true) → π.Nodup → (∀ c ∈ π, c ∈ cs) → (∀ c ∈ cs, LL A c.at_ = true ↔ c ∈ π) → (∀ j, j < l.length → f.getD j false = true → LL A j = false) →
   RelS w0 G ⟨slAt l slots d (LL A) l.length, ⟨R, bx ++ π.map fun c => some (boxC T c), M⟩⟩ a w →
   (∀ (p : Nat) (c : Cre), π[p]? = some c → ∀ v : Value, a.tmps.toList[c.tmp]? = some v → v = Value.pointer (some ⟨G.boxB (bx.length + p), 0, none⟩)) →
   nameds R.length bx.length M.length (slAt l slots d (LL A) l.length) = true →
   Ext G0 σ0 W0 G ⟨R, bx ++ π.map fun c => some (boxC T c), M⟩ w → LInv lits (LL A) w0 G0 G a w → wpAny P .any l.toArray (Post w0 G0 σ0 W0 Q) fuel A a w := by
  intro fuel
  induction fuel with
  | zero =>
   intro A π G a w hA hcn hcl' hnd hsub hiff hfl hr hp hn hx hI
   refine complete 0 A π G a w hA hcn hcl' (fun c hcc => ?_) hiff hfl hr hp hn hx hI
   refine (hiff c hcc).1 ?_
   have h3 : A.toList.countP (fun b => !b) = 0 := by omega
   rw [List.countP_eq_zero] at h3
   have hcA : c.at_ < A.size := by rw [hA]; exact hcl c hcc
   have := h3 A[c.at_] (by simp)
   show A.getD c.at_ false = true
   rw [Array.getD_eq_getD_getElem?, Array.getElem?_eq_getElem hcA]
   simpa using this
  | succ fuel ih =>
   intro A π G a w hA hcn hcl' hnd hsub hiff hfl hr hp hn hx hI
   by_cases hall : ∀ c ∈ cs, c ∈ π
   ·exact complete _ A π G a w hA hcn hcl' hall hiff hfl hr hp hn hx hI
   ·refine ⟨fun hn0 => ?_, fun i hi => ?_⟩
    ·exfalso
     have hrd := ready_nil hb hA hn0
     exact hall fun c hcc => (hiff c hcc).1 (hrd _ (hcl c hcc))
    obtain ⟨hin, hAi, o, ho, hdep⟩ := mem_ready.1 hi
    have hAg : A[i]'(by omega) = false := by
     rw [Array.getD_eq_getD_getElem?, Array.getElem?_eq_getElem (by omega)] at hAi
     simpa using hAi
    have hLi : LL A i = false := by
     show A.getD i false = false
     rw [Array.getD_eq_getD_getElem?, Array.getElem?_eq_getElem (by omega)]
     simpa using hAg
    have hpl : LL (A.setIfInBounds i true) = plus (LL A) i := by
     funext j
     show (A.setIfInBounds i true).getD j false = _
     rw [Array.getD_eq_getD_getElem?, Array.getElem?_setIfInBounds]
     by_cases e : i = j
     ·subst e; rw [if_pos rfl, if_pos (by omega)]; simp [plus]
     ·rw [if_neg e, ← Array.getD_eq_getD_getElem?]
      simp only [plus]
      rw [if_neg (Ne.symm e)]
    have hcn' : (A.setIfInBounds i true).toList.countP (fun b => !b) ≤ fuel := by
     rw [Array.toList_setIfInBounds, List.countP_set (by simpa using (by omega : i < A.size))]
     have hp : 0 < A.toList.countP (fun b => !b) := List.countP_pos_iff.2 ⟨A[i], by simp, by rw [hAg]; rfl⟩
     have : A.toList[i]'(by simpa using (by omega : i < A.size)) = false := by simpa using hAg
     rw [this]
     simp only [Bool.not_false, if_true, Bool.not_true, Bool.false_eq_true, if_false]
     omega
    have hclp : ∀ j y, l[j]? = some y → LL (A.setIfInBounds i true) j = true → ∀ k ∈ bound y, LL (A.setIfInBounds i true) k = true := by
     rw [hpl]
     intro j y hy hLj k hk
     simp only [plus] at hLj ⊢
     by_cases e : k = i
     ·rw [if_pos e]
     ·rw [if_neg e]
      by_cases e' : j = i
      ·subst e'
       rw [ho] at hy; injection hy with hy; subst hy
       exact hdep k hk
      ·rw [if_neg e'] at hLj
       exact hcl' j y hy hLj k hk
    cases hci' : isCre cs i with
    | true =>
     obtain ⟨c, hcc, rfl⟩ := isCre_iff.1 hci'
     obtain ⟨o', ho', hop, hdst, hgrd, hfo⟩ := hcat c hcc
     rw [ho] at ho'; injection ho' with ho'; subst ho'
     have hcπ : c ∉ π := fun h => absurd ((hiff c hcc).2 h) (by rw [hLi]; simp)
     have hde : d c.at_ = .undef := ((hS _ o ho).1 (by rw [hgs]; exact hci')).2.2
     have hsl : slAt l slots d (plus (LL A) c.at_) l.length = putS (slAt l slots d (LL A) l.length) o.dst .undef := by
      have := slAt_plus (l := l) (s0 := slots) (d := d) (L := LL A) (i := c.at_) hLi (fun j hj hLj t ht hjt => by
       rw [ho] at ht
       simp only [Option.bind_some, hdst, Option.some.injEq] at ht
       subst ht
       cases hy : l[j]? with
       | none => rw [hy] at hjt; simp at hjt
       | some y =>
        rw [hy] at hjt
        simp only [Option.bind_some] at hjt
        cases hcj : isCre cs j with
        | false =>
         have := hno j y hy hcj _ hjt
         obtain ⟨k, hk, rfl⟩ := List.getElem_of_mem hcc
         rw [creT_some hn2 (List.getElem?_eq_getElem hk)] at this
         cases this
        | true =>
         obtain ⟨c', hcc', rfl⟩ := isCre_iff.1 hcj
         obtain ⟨o2, ho2, _, hd2, _⟩ := hcat c' hcc'
         rw [hy] at ho2; injection ho2 with ho2; subst ho2
         rw [hjt] at hd2
         injection hd2 with hd2
         obtain ⟨k, hk, rfl⟩ := List.getElem_of_mem hcc
         obtain ⟨k', hk', rfl⟩ := List.getElem_of_mem hcc'
         have q1 := creT_some hn2 (List.getElem?_eq_getElem hk)
         have q2 := creT_some hn2 (List.getElem?_eq_getElem hk')
         rw [hd2, q2] at q1
         injection q1 with q1
         subst q1
         omega) l.length hin
      rw [this, ho, hde]; rfl
     unfold wpOp
     rw [show l.toArray[c.at_]? = some o by simpa using ho]
     simp only
     have hwt : Region.wanted o (yielded l.toArray a.tmps) = true := by unfold Region.wanted; rw [hgrd]
     rw [if_pos hwt]
     refine .inl ?_
     have hact := (effD_sound (P := P) hT (slots := slAt l slots d (LL A) l.length) (σ := ⟨R, bx ++ π.map fun c => some (boxC T c), M⟩) (o := o) (C := (T c.ty).ty ≠ .other) (d := .ptr (bx ++ π.map fun c => some (boxC T c)).length 0) (σ' := ⟨R, (bx ++ π.map fun c => some (boxC T c)) ++ [some (boxC T c)], M⟩) (by rw [hop]; rfl) (hty c hcc).1).act
     refine hact w0 G a w _ _ hr ?_
     rintro v r σ' G' w' ⟨rfl, rfl⟩ hS' hE' hv
     have eπ : (⟨R, (bx ++ π.map fun c => some (boxC T c)) ++ [some (boxC T c)], M⟩ : Store) = ⟨R, bx ++ (π ++ [c]).map fun c => some (boxC T c), M⟩ := by simp
     rw [eπ] at hS' hE' hv
     refine ih (A.setIfInBounds c.at_ true) (π ++ [c]) G' _ w' (by simpa using hA) hcn' hclp ?_ ?_ ?_ ?_ ?_ ?_ ?_ (hx.trans hE') (by rw [hpl]; exact (hI.ext hE').put hF ho (hF.noal ho hop) _)
     ·rw [List.nodup_append]
      exact ⟨hnd, by simp, fun x hx y hy => by rw [List.mem_singleton.1 hy]; rintro rfl; exact hcπ hx⟩
     ·intro x hx'
      rcases List.mem_append.1 hx' with h' | h'
      ·exact hsub x h'
      ·rw [List.mem_singleton.1 h']; exact hcc
     ·intro x hxc
      rw [hpl]
      simp only [plus, List.mem_append, List.mem_singleton]
      by_cases e : x.at_ = c.at_
      ·rw [if_pos e]
       simp [hat x hxc c hcc e]
      ·rw [if_neg e, hiff x hxc]
       constructor
       ·exact .inl
       ·rintro (h' | h')
        ·exact h'
        ·exact absurd (congrArg Cre.at_ h') e
     ·intro j hj hfj
      rw [hpl]
      simp only [plus]
      rw [if_neg (by rintro rfl; rw [hfo] at hfj; cases hfj)]
      exact hfl j hj hfj
     ·rw [hpl, hsl]
      refine ⟨by rw [put_defers]; exact hr.1.ext hE', ?_, hS'⟩
      have := RelL_put (hr.2.1.ext hE') (.undef v) o.dst
      rw [putS_eq] at this
      exact this
     ·intro p x hpx u hu
      rw [hdst] at hu
      rcases Nat.lt_trichotomy p π.length with hlt | heq | hgt
      ·rw [List.getElem?_append_left hlt] at hpx
       have hxm := List.mem_of_getElem? hpx
       have hxc := hsub x hxm
       rcases tmps_put hu with ⟨h1, h2⟩ | ⟨h1, h2⟩
       ·rw [hp p x hpx u h2, hE'.boxB _ (by simp; omega)]
       ·exfalso
        obtain ⟨k, hk, rfl⟩ := List.getElem_of_mem hcc
        obtain ⟨k', hk', rfl⟩ := List.getElem_of_mem hxc
        have q1 := creT_some hn2 (List.getElem?_eq_getElem hk)
        have q2 := creT_some hn2 (List.getElem?_eq_getElem hk')
        rw [h1, q1] at q2
        injection q2 with q2
        subst q2
        exact hcπ hxm
      ·subst heq
       rw [List.getElem?_append_right (Nat.le_refl _), Nat.sub_self] at hpx
       simp only [List.getElem?_cons_zero, Option.some.injEq] at hpx
       subst hpx
       rcases tmps_put hu with ⟨h1, h2⟩ | ⟨h1, h2⟩
       ·exact absurd rfl h1
       ·subst h2
        have el : (bx ++ π.map fun c => some (boxC T c)).length = bx.length + π.length := by simp
        rw [el] at hv
        cases hv
        rfl
      ·rw [List.getElem?_append_right (by omega)] at hpx
       rw [List.getElem?_eq_none (by simp; omega)] at hpx
       cases hpx
     ·rw [hpl, hsl]
      exact nameds_put hn rfl
    | false =>
     have hlate : ¬ (f.getD i false = true ∨ ∃ t ∈ o.looksAt l.toArray, creT cs t ≠ none) := fun hh =>
      hall fun c hcc => (hiff c hcc).1 (clos_closed' hb o ho hcl' hdep _ ((hoth i o ho hci').2 hh c hcc))
     have hfi : f.getD i false = false := by
      cases hq : f.getD i false with
      | false => rfl
      | true => exact absurd (.inl hq) hlate
     have hlk : ∀ t ∈ o.looksAt l.toArray, creT cs t = none := fun t ht => by
      cases hq : creT cs t with
      | none => rfl
      | some k => exact absurd (.inr ⟨t, ht, by rw [hq]; simp⟩) hlate
     have hpre : ∀ j x, l[j]? = some x → j < i → conflict l.toArray f j i x o = true → LL A j = true := fun j x hx hj hcf' =>
      clos_closed' hb o ho hcl' hdep j (hcf j i x o hx ho hj hcf')
     have hpost : ∀ j y, l[j]? = some y → i < j → conflict l.toArray f i j o y = true → LL A j = false := fun j y hy hj hcf' => by
      cases hLj : LL A j with
      | false => rfl
      | true =>
       have := clos_closed hb hcl' j (List.getElem?_eq_some_iff.1 hy).1 hLj i (hcf i j o y ho hy hj hcf')
       exact absurd (hLi.symm.trans this) (by simp)
     have hag : agree (o.looksAt l.toArray) (ss i) (slAt l slots d (LL A) l.length) := by
      intro t ht
      have := slAt_agree (l := l) (s0 := slots) (d := d) (L := LL A) (i := i) (t := t) (fun j hj => by
       cases hy : l[j]? with
       | none => rw [hy] at hj; simp at hj
       | some y =>
        rw [hy] at hj
        simp only [Option.bind_some] at hj
        rcases Nat.lt_trichotomy j i with h | h | h
        ·exact ⟨fun _ => h, fun _ => hpre j y hy h (by simp [conflict, hj, ht])⟩
        ·subst h; exact ⟨fun h => absurd (hLi.symm.trans h) (by simp), fun h => by omega⟩
        ·exact ⟨fun h' => absurd ((hpost j y hy h (by simp [conflict, hj, ht])).symm.trans h') (by simp), fun h' => by omega⟩) l.length
      rw [this, show min i l.length = i by omega, ← hss i (by omega), pat_getD_no (hlk t ht)]
     have hwd := wanted_looks (s' := slAt l slots d (LL A) l.length) hag
     obtain ⟨hstep, hput⟩ := (hS i o ho).2 (by rw [hgs]; exact hci')
     have hsl : slAt l slots d (plus (LL A) i) l.length = putS (slAt l slots d (LL A) l.length) o.dst (d i) := by
      have := slAt_plus (l := l) (s0 := slots) (d := d) (L := LL A) (i := i) hLi (fun j hj hLj t ht hjt => by
       rw [ho] at ht
       cases hy : l[j]? with
       | none => rw [hy] at hjt; simp at hjt
       | some y =>
        rw [hy] at hjt
        simp only [Option.bind_some] at ht hjt
        have := hpost j y hy hj (by simp [conflict, ht, hjt])
        rw [hLj] at this; cases this) l.length hin
      rw [this, ho]; rfl
     have next : ∀ (G' : Gh) (v' : Value) (w' : World), RelL G' ⟨R, bx ++ π.map fun c => some (boxC T c), M⟩ w' (slAt l slots d (LL A) l.length) a.tmps.toList → RelV G' ⟨R, bx ++ π.map fun c => some (boxC T c), M⟩ w' (d i) v' → (d i).named R.length bx.length M.length = true →
       StoreRel w0 G' ⟨R, bx ++ π.map fun c => some (boxC T c), M⟩ w' → Ext G0 σ0 W0 G' ⟨R, bx ++ π.map fun c => some (boxC T c), M⟩ w' → ((∀ id, id < (bx ++ π.map fun c => some (boxC T c)).length → G'.boxB id = G.boxB id) ∧ ∀ ds, Dfs G w ds → Dfs G' w' ds) → LInv lits (plus (LL A) i) w0 G0 G' (a.put o.dst v') w' → wpAny P .any l.toArray (Post w0 G0 σ0 W0 Q) fuel (A.setIfInBounds i true) (a.put o.dst v') w' := by
      intro G' v' w' hrl hv hnd' hS' hX' hB0 hI'
      obtain ⟨hB', hD⟩ := hB0
      refine ih (A.setIfInBounds i true) π G' _ w' (by simpa using hA) hcn' hclp hnd hsub ?_ ?_ ?_ ?_ ?_ hX' (by rw [hpl]; exact hI')
      ·intro x hxc
       rw [hpl]
       simp only [plus]
       rw [if_neg (by intro e; rw [isCre_iff.2 ⟨x, hxc, e⟩] at hci'; cases hci')]
       exact hiff x hxc
      ·intro j hj hfj
       rw [hpl]
       simp only [plus]
       rw [if_neg (by rintro rfl; rw [hfi] at hfj; cases hfj)]
       exact hfl j hj hfj
      ·rw [hpl, hsl]
       refine ⟨by rw [put_defers]; exact hD _ hr.1, ?_, hS'⟩
       have := RelL_put hrl hv o.dst
       rw [putS_eq] at this
       exact this
      ·intro p x hpx u hu
       have hxc := hsub x (List.mem_of_getElem? hpx)
       have hpl' := (List.getElem?_eq_some_iff.1 hpx).1
       rw [hB' _ (by simp; omega)]
       cases hd : o.dst with
       | none => rw [hd] at hu; exact hp p x hpx u hu
       | some t =>
        rw [hd] at hu
        rcases tmps_put hu with ⟨h1, h2⟩ | ⟨h1, h2⟩
        ·exact hp p x hpx u h2
        ·exfalso
         obtain ⟨k', hk', rfl⟩ := List.getElem_of_mem hxc
         have q := hno i o ho hci' t hd
         rw [← h1, creT_some hn2 (List.getElem?_eq_getElem hk')] at q
         cases q
      ·rw [hpl, hsl]
       exact nameds_put hn hnd'
     unfold wpOp
     rw [show l.toArray[i]? = some o by simpa using ho]
     simp only
     rcases hstep with ⟨h1, h2, h3, h4⟩ | ⟨h1, h2, h3, hbl, h4⟩ | ⟨h1, h2, h3⟩
     ·rw [if_neg (by rw [wanted_rel hr.2.1 (hwd.trans h1)]; simp)]
      exact next G _ w hr.2.1 (by rw [h3]; exact .tup [] [] rfl (fun i c v hc => by simp at hc)) (by rw [h3]; rfl) hr.2.2 hx ⟨fun _ _ => rfl, fun _ h => h⟩ (hI.put hF ho (hF.noff ho h1) _)
     ·rw [if_pos (wanted_rel hr.2.1 (hwd.trans h1))]
      refine .inl ?_
      have hS1 := hr.2.2.trunc (r := R.length) (b := bx.length) (m := M.length) (Nat.le_refl _) (by simp) (Nat.le_refl _) (by rw [htr]; exact hNM)
      rw [htr] at hS1
      have hL1 := hr.2.1.trunc (r := R.length) (b := bx.length) (m := M.length) (Nat.le_refl _) (by simp) (Nat.le_refl _) hn
      rw [htr] at hL1
      have hnamed : (d i).named R.length bx.length M.length = true := by
       have hE00 := hE0 []
       rw [List.append_nil] at hE00
       refine wp_const (h4 ⟨R, bx, M⟩ hE00 _ hag w0 G a w (fun _ _ => (d i).named R.length bx.length M.length = true) (fun _ _ _ => False) ⟨hr.1, hL1, hS1⟩ ?_)
       intro v G' w' _ _ hv
       exact hv.named
      have hsz : ∀ x ∈ lits, x.t < a.tmps.size := fun x hx => by
       have h1 := hr.2.1.1
       rw [slAt_len] at h1
       rw [Array.length_toList] at h1
       rw [h1]; exact hts x hx
      refine lit_step hF hT ho (h4 _ (hE0 _) _ hag) hbl hr hx hI (fun x hxm e => ?_) hsz ?_
      ·obtain ⟨y, hy1, hy2⟩ := hF.looks hxm (e ▸ ho)
       exact hpre x.i y hy1 (e ▸ hF.lt x hxm) (by simp [conflict, hy2.1, hy2.2])
      intro v G' w' hS' hrl' hv hx' hB' hI'
      exact next G' v w' hrl' hv hnamed hS' hx' hB' hI'
     ·rw [hfi] at h2; cases h2
 have hfalse : ∀ j, LL (Array.replicate l.length false) j = false := by
  intro j
  show (Array.replicate l.length false).getD j false = false
  rw [Array.getD_eq_getD_getElem?, Array.getElem?_replicate]
  split <;> rfl
 have e1 : slAt l slots d (LL (Array.replicate l.length false)) l.length = slots := by
  have : ∀ k, slAt l slots d (LL (Array.replicate l.length false)) k = slots := by
   intro k
   induction k with
   | zero => rfl
   | succ k ih => simp only [slAt]; rw [hfalse k]; exact ih
  exact this _
 have e0 : (⟨R, bx ++ ([] : List Cre).map fun c => some (boxC T c), M⟩ : Store) = ⟨R, bx, M⟩ := by simp
 refine wp_region_any hm ?_
 simp only [List.size_toArray]
 refine pre l.length (Array.replicate l.length false) [] G a _ (by simp) ?_ ?_ List.nodup_nil (by simp) ?_ ?_ ?_ ?_ ?_ ?_ ?_
 ·exact Nat.le_trans List.countP_le_length (by simp)
 ·intro j y _ h; rw [hfalse j] at h; cases h
 ·intro c _; rw [hfalse]; simp
 ·intro j _ _; exact hfalse j
 ·rw [e1, e0]
  exact ⟨hr.1.ext (drew_ext (σ := ⟨[], [], []⟩) _), hr.2.1.ext (drew_ext _), drew_rel _ hr.2.2⟩
 ·intro p c h; simp at h
 ·rw [e1]; exact hr.2.1.names
 ·rw [e0]; exact hx.trans (drew_ext _)
 ·intro x _ h; rw [hfalse] at h; cases h
end
section
variable {P : Program} {T : TypeId → TI} {dsts : List (Option Tmp)} {l l' : List Oper} {s s' : List DV} {σ : Store} {Q : Exit → St → Prop} {bs : List (Option Box)} {lits : List Lit}
def opAt (l : List Oper) (i : Nat) : Op := match l[i]? with | some o => o.op | none => .move (.const (.bool false))
def litOK (l : List Oper) (f : List Bool) (lits : List Lit) : Bool :=
 lits.all fun x =>
  (match l[x.i]? with
  | some o => (match o.op with | .buildSlice t n _ => t == x.ty && decide (0 < n) | _ => false) && o.dst == some x.t && o.guard.isNone
  | none => false) &&
  (match l[x.j]? with
  | some o => (match o.op with | .convert a b (.tmp t) => a == x.ty && b == x.ty && t == x.t | _ => false)
  | none => false) && !f.getD x.i false && !f.getD x.j false && decide (x.i < x.j) &&
  (List.range l.length).all fun k => match l[k]? with | some o => !(o.dst == some x.t) || k == x.i | none => true
def LitB (T : TypeId → TI) (l : List Oper) (lits : List Lit) : Prop := ∀ x ∈ lits, ∀ σ s, ∃ C xs, newD T σ s (opAt l x.i) = some (C, .slt xs) ∧ C
theorem LitB_nil : LitB T l [] := fun x h => by simp at h
theorem LitB_cons {x : Lit} {op : Op} {C : Store → List DV → Prop} {xs : List DV} (ho : opAt l x.i = op) (h : ∀ σ s, newD T σ s op = some (C σ s, .slt xs)) (hc : ∀ σ s, C σ s) (k : LitB T l lits) : LitB T l (x :: lits) := by
 intro y hy σ s
 rcases List.mem_cons.1 hy with rfl | hy
 ·exact ⟨_, _, by rw [ho]; exact h σ s, hc σ s⟩
 ·exact k y hy σ s
theorem litFacts {f : List Bool} (h : litOK l f lits = true) (hb : LitB T l lits) (ht : ∀ x ∈ lits, (T x.ty).ty = .slice x.e ∧ (T x.e).ty = .int .u8) : LitFacts P T l f lits := by
 have H : ∀ x ∈ lits, (∃ o, l[x.i]? = some o ∧ (∃ n ps, o.op = .buildSlice x.ty n ps ∧ 0 < n) ∧ o.dst = some x.t ∧ o.guard = none) ∧ (∃ o, l[x.j]? = some o ∧ o.op = .convert x.ty x.ty (.tmp x.t)) ∧ f.getD x.i false = false ∧ f.getD x.j false = false ∧ x.i < x.j ∧
   ∀ k o, l[k]? = some o → o.dst = some x.t → k = x.i := by
  intro x hx
  have h1 := List.all_eq_true.1 h x hx
  simp only [Bool.and_eq_true, Bool.not_eq_true', decide_eq_true_eq] at h1
  obtain ⟨⟨⟨⟨⟨a1, a2⟩, a3⟩, a4⟩, a5⟩, a6⟩ := h1
  refine ⟨?_, ?_, a3, a4, a5, fun k o hk hd => ?_⟩
  ·cases ho : l[x.i]? with
   | none => rw [ho] at a1; cases a1
   | some o =>
    rw [ho] at a1
    simp only [Bool.and_eq_true, beq_iff_eq, Option.isNone_iff_eq_none] at a1
    obtain ⟨⟨b1, b2⟩, b3⟩ := a1
    refine ⟨o, rfl, ?_, b2, b3⟩
    split at b1
    ·rename_i t n ps he
     simp only [Bool.and_eq_true, beq_iff_eq, decide_eq_true_eq] at b1
     exact ⟨n, ps, by rw [he, b1.1], b1.2⟩
    ·cases b1
  ·cases ho : l[x.j]? with
   | none => rw [ho] at a2; cases a2
   | some o =>
    rw [ho] at a2
    simp only at a2
    refine ⟨o, rfl, ?_⟩
    split at a2
    ·rename_i a b t he
     simp only [Bool.and_eq_true, beq_iff_eq] at a2
     obtain ⟨⟨c1, c2⟩, c3⟩ := a2
     rw [he, c1, c2, c3]
    ·cases a2
  ·have hk' := (List.getElem?_eq_some_iff.1 hk).1
   have := List.all_eq_true.1 a6 k (by simpa using hk')
   rw [hk] at this
   simp only [hd, beq_self_eq_true, Bool.not_true, Bool.false_or, beq_iff_eq] at this
   exact this
 refine ⟨fun x hx => (H x hx).2.2.2.2.2, fun x hx => ?_, fun x hx => (H x hx).2.1, fun x hx => ⟨(H x hx).2.2.1, (H x hx).2.2.2.1⟩, fun x hx => (H x hx).2.2.2.2.1, ht⟩
 obtain ⟨o, h1, ⟨n, ps, h2, h3⟩, h4, h5⟩ := (H x hx).1
 refine ⟨n, ps, o, h1, h2, h4, h3, h5, fun σ s => ?_⟩
 obtain ⟨C, xs, k1, k2⟩ := hb x hx σ s
 refine ⟨C, xs, ?_, k2⟩
 rw [← k1]
 simp only [opAt, h1, h2]
def litT : List (Option Tmp) → List Oper → List Oper
 | some t :: ms, o :: l => { o with op := .move (.tmp t) } :: litT ms l
 | none :: ms, o :: l => o :: litT ms l
 | _, l => l
theorem litT_nil (l : List Oper) : litT [] l = l := by cases l <;> rfl
theorem litT_n (ms : List (Option Tmp)) (o : Oper) (l : List Oper) : litT (none :: ms) (o :: l) = o :: litT ms l := rfl
theorem litT_s (t : Tmp) (ms : List (Option Tmp)) (d : Option Tmp) (op : Op) (ty : TypeId) (pos : String) (af : Array Edge) (g : Option (Nat × Bool)) (l : List Oper) : litT (some t :: ms) (⟨d, op, ty, pos, af, g⟩ :: l) = ⟨d, .move (.tmp t), ty, pos, af, g⟩ :: litT ms l := rfl
def marks (lits : List Lit) (k n : Nat) : List (Option Tmp) := (List.range' k n).map fun i => (lits.find? (fun x => x.j == i)).map (·.t)
theorem litT_eq : ∀ (l : List Oper) (k n : Nat), (∀ x ∈ lits, x.j < k + n) → litT (marks lits k n) l = l.mapIdx fun i o => fixL lits (k + i) o
 | [], k, n, _ => by cases h : marks lits k n with | nil => rfl | cons a b => cases a <;> rfl
 | o :: l, k, 0, h => by
  simp only [marks, List.range'_zero, List.map_nil, litT_nil]
  apply List.ext_getElem?
  intro i
  rw [List.getElem?_mapIdx]
  cases (o :: l)[i]? with
  | none => rfl
  | some p => simp only [Option.map_some]; rw [fixL_none (fun x hx e => by have := h x hx; omega)]
 | o :: l, k, n + 1, h => by
  have ih := litT_eq l (k + 1) n (fun x hx => by have := h x hx; omega)
  have e : marks lits k (n + 1) = ((lits.find? (fun x => x.j == k)).map (·.t)) :: marks lits (k + 1) n := by simp only [marks, List.range'_succ, List.map_cons]
  rw [e, List.mapIdx_cons]
  have e2 : (l.mapIdx fun i o => fixL lits (k + (i + 1)) o) = l.mapIdx fun i o => fixL lits (k + 1 + i) o := by
   congr 1; funext i o; rw [show k + (i + 1) = k + 1 + i by omega]
  cases hf : lits.find? (fun x => x.j == k) with
  | none =>
   simp only [Option.map_none, litT]
   rw [ih, ← e2]
   congr 1
   unfold fixL; rw [Nat.add_zero, hf]
  | some x =>
   simp only [Option.map_some, litT]
   rw [ih, ← e2]
   congr 1
   unfold fixL; rw [Nat.add_zero, hf]
theorem keepF_len (l : List Oper) : ∀ (l' : List Oper) (f g : List Bool), l.length = l'.length → keepF l f g = keepF l' f g := by
 induction l with
 | nil => intro l' f g h; cases l' with
  | nil => rfl
  | cons a b => simp at h
 | cons o l ih => intro l' f g h; cases l' with
  | nil => simp at h
  | cons o' l' =>
   simp only [keepF]
   rw [ih l' f.tail g.tail (by simpa using h)]
theorem D_startL {id : Nat} {R : List (Option Row)} {bx b1 : List (Option Box)} {M : List (Option (List (DV × DV)))} (own : List FuncId) (cs : List Cre) (lits : List Lit) (ms : List (Option Tmp)) (g f1 : List Bool) (hm : P.follows .mixedOrders = true) (hT : TOK P T)
  (hb : LitB T l lits)
  (h : DrD P (EP bx) dsts l' f1 s' ⟨R, b1, M⟩ (fun s τ => Q .normal ⟨s, τ⟩))
  (hf1 : keepF l (maskF (flagsOf own l) g) g = f1 := by decide +kernel)
  (hd : l.map (·.dst) = dsts := by simp only [List.map_cons, List.map_nil]; exact rfl)
  (hms : marks lits 0 ms.length = ms := by decide +kernel) (hmj : (∀ x ∈ lits, x.j < 0 + ms.length) := by decide)
  (hl : keepAt (litT ms l) g = l' := by simp only [litT_n, litT_s, litT_nil, keepAt_t, keepAt_f, keepAt_nil]; exact rfl)
  (hs : setsC cs bx.length s = s' := by simp only [setsC_cons, setsC_nil, List.set_cons_succ, List.set_cons_zero, app_len, List.length_cons, List.length_nil, Nat.zero_add, Nat.add_assoc, Nat.reduceAdd]; exact rfl)
  (hbs : (cs.map (boxC T)).map some = bs := by simp (maxSteps := 1000000) (disch := omega) only [go_sem, boxC, List.map_cons, List.map_nil]; exact rfl)
  (hb1 : bx ++ bs = b1 := by (try simp only [List.append_assoc, List.cons_append, List.nil_append, List.append_nil]) <;> exact rfl)
  (hn : (cs.map (·.tmp)).Nodup := by decide)
  (hts : (lits.all fun x => Nat.ble (x.t + 1) s.length) = true := by rfl)
  (hf : fit l (maskF (flagsOf own l) g) = true := by decide +kernel) (hc : creOK l (maskF (flagsOf own l) g) g cs = true := by decide +kernel) (hlo : litOK l (maskF (flagsOf own l) g) lits = true := by decide +kernel)
  (hlt : ∀ x ∈ lits, (T x.ty).ty = .slice x.e ∧ (T x.e).ty = .int .u8 := by simp only [List.forall_mem_cons, forallT_nil, go_sem])
  (hty : ∀ c ∈ cs, (T c.ty).ty ≠ .other ∧ nameds 0 0 0 (ofVal (T c.ty).zero).cells = true := by
   simp only [List.forall_mem_cons, forallT_nil, go_sem, nameds, DV.named, Bool.and_self, ne_eq, reduceCtorEq, not_false_eq_true, and_self, true_and]) : Ev P (.region id l.toArray true) ⟨s, ⟨R, bx, M⟩⟩ Q := by
 subst hb1; subst hf1
 have hll : litL lits l = litT ms l := by
  rw [← hms, litT_eq l 0 ms.length hmj]
  simp only [litL, Nat.zero_add]
 refine Ev_drawL (R := R) (bx := bx) (M := M) (g := g) (cs := cs) (litFacts hlo hb hlt) hm hT (EP bx) (fun r => ⟨r, rfl⟩) hf hc hty (fun x hx => by have := List.all_eq_true.1 hts x hx; exact Nat.le_of_ble_eq_true this) (DrwC.of ⟨_, rfl⟩ ?_)
 rw [pat_sets hn, hs, hbs, hll, hl, keepF_len (litT ms l) l _ _ (by rw [← hll, litL_len])]
 exact h (litT ms l).toArray (by
  rw [← hd, ← hll]
  apply List.ext_getElem?
  intro i
  simp only [List.getElem?_map, litL_get]
  cases l[i]? with
  | none => rfl
  | some o => simp only [Option.map_some, fixL_dst])
theorem D_startC {id : Nat} {R : List (Option Row)} {bx b1 : List (Option Box)} {M : List (Option (List (DV × DV)))} (own : List FuncId) (cs : List Cre) (g f1 : List Bool) (hm : P.follows .mixedOrders = true) (hT : TOK P T)
  (h : DrD P (EP bx) dsts l' f1 s' ⟨R, b1, M⟩ (fun s τ => Q .normal ⟨s, τ⟩))
  (hf1 : keepF l (maskF (flagsOf own l) g) g = f1 := by decide +kernel)
  (hd : l.map (·.dst) = dsts := by simp only [List.map_cons, List.map_nil]; exact rfl)
  (hl : keepAt l g = l' := by simp only [keepAt_t, keepAt_f, keepAt_nil]; exact rfl)
  (hs : setsC cs bx.length s = s' := by simp only [setsC_cons, setsC_nil, List.set_cons_succ, List.set_cons_zero, app_len, List.length_cons, List.length_nil, Nat.zero_add, Nat.add_assoc, Nat.reduceAdd]; exact rfl)
  (hbs : (cs.map (boxC T)).map some = bs := by simp (maxSteps := 1000000) (disch := omega) only [go_sem, boxC, List.map_cons, List.map_nil]; exact rfl)
  (hb1 : bx ++ bs = b1 := by (try simp only [List.append_assoc, List.cons_append, List.nil_append]) <;> exact rfl)
  (hn : (cs.map (·.tmp)).Nodup := by decide)
  (hf : fit l (maskF (flagsOf own l) g) = true := by decide +kernel) (hc : creOK l (maskF (flagsOf own l) g) g cs = true := by decide +kernel)
  (hty : ∀ c ∈ cs, (T c.ty).ty ≠ .other ∧ nameds 0 0 0 (ofVal (T c.ty).zero).cells = true := by
   simp only [List.forall_mem_cons, forallT_nil, go_sem, nameds, DV.named, Bool.and_self, ne_eq, reduceCtorEq, not_false_eq_true, and_self, true_and]) : Ev P (.region id l.toArray true) ⟨s, ⟨R, bx, M⟩⟩ Q :=
 D_startL own cs [] [] g f1 hm hT LitB_nil h hf1 hd rfl (by simp) (by rw [litT_nil]; exact hl) hs hbs hb1 hn rfl hf hc rfl (by simp) hty
end
end Go.Val
end

section
namespace Go.Val
open Go.RowKit
set_option linter.unusedSimpArgs false
set_option linter.unusedVariables false
section
variable {P : Program} {T : TypeId → TI} {dsts : List (Option Tmp)} {l rest : List Oper} {f f' : List Bool} {s s' : List DV} {σ σ' : Store} {K : List DV → Store → Prop} {Q : Exit → St → Prop}
def EW2 (B : Option Box → Option Box → List (Option Box)) : Store → Prop := fun τ => ∃ R M u v, τ = ⟨R, B u v, M⟩
theorem D_startW2 {id : Nat} (own : List FuncId) (B : Option Box → Option Box → List (Option Box)) (hm : P.follows .mixedOrders = true) (h : DrD P (EW2 B) dsts l (flagsOf own l) s σ (fun s τ => Q .normal ⟨s, τ⟩))
  (hd : l.map (·.dst) = dsts := by simp only [List.map_cons, List.map_nil]; exact rfl) (hf : fit l (flagsOf own l) = true := by decide +kernel) : Ev P (.region id l.toArray true) ⟨s, σ⟩ Q :=
 Ev_drawD hm _ _ hd hf h
theorem D_runLW2 (hT : TOK P T) {B : Option Box → Option Box → List (Option Box)} {C : Prop} {acc : List DV} {n : Nat} {l1 l2 : List Oper} {f2 : List Bool} (k : DrD P (EW2 B) dsts l2 f2 s' σ K) (hc : C)
  (hn : leadQ l f = n := by simp only [List.drop_succ_cons, List.drop_zero, leadQ, leadG, sameG, stopOp, flagsOf, isWr, List.map_cons, List.map_nil, List.headD_cons, List.tail_cons, List.contains_cons, List.contains_nil, Nat.reduceBEq, beq_self_eq_true, Bool.true_beq, Bool.false_beq, Bool.not_true, Bool.not_false, Bool.and_true, Bool.true_and, Bool.and_false, Bool.false_and, Bool.or_false, Bool.false_or, Bool.or_true, Bool.true_or, Bool.and_self, if_true, if_false, Bool.false_eq_true, Nat.zero_add, Nat.reduceAdd]; exact rfl) (h1 : l.take n = l1 := by simp only [List.take_succ_cons, List.take_zero]; exact rfl) (h2 : l.drop n = l2 := by simp only [List.drop_succ_cons, List.drop_zero]; exact rfl) (hl : Nat.ble n l.length = true := by rfl) (h3 : f.drop n = f2 := by rfl)
  (h : ∀ R u v M, runQ T dsts ⟨R, B u v, M⟩ l1 f s True [] = (C, acc, s', [], f') := by intro R u v M; simp (maxSteps := 1000000) (disch := omega) only [go_sem]; with_reducible exact rfl)
  (hp : l2.length < l.length := by decide) (hE : EW2 B σ := by exact ⟨_, _, _, _, rfl⟩) : DrD P (EW2 B) dsts l f s σ K := by
 refine DrD_runN hT hE n (acc := acc) (f' := f') h1 h2 (Nat.le_of_ble_eq_true hl) h3 (fun τ hτ => ⟨C, ?_, hc⟩) k
 obtain ⟨R, M, u, v, rfl⟩ := hτ
 exact h R u v M
end
end Go.Val
end
