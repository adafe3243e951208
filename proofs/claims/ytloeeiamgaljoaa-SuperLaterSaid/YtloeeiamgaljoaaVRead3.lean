/- What is handed in, read as data of any make. -/
import Derived.Test.YtloeeiamgaljoaaVRead2
namespace Go.Val
open Go.RowKit
set_option linter.unusedSimpArgs false
set_option linter.unusedVariables false
section
variable {P : Program} {W : World} {t e : TypeId} {α β : Type}

def ReadsT (P : Program) (W : World) (t : TypeId) {α : Type} (f : α → DV) (w : α → Prop) : Prop := Reads P W t (fun d => ∃ a, d = f a ∧ w a)
theorem ReadsT.int {k : IntKind} (hu : P.underlying t = some (.int k)) : ReadsT P W t (fun n : Int => .int k n) (fun n => (Lit.int k n).wf = true) := by
  intro H enc base spare held fuel cs x h hw0
  obtain ⟨_, ⟨n, rfl, hw⟩, hr⟩ := Reads.int hu H enc base spare held fuel cs x h hw0
  exact ⟨_, ⟨n, rfl, hw⟩, hr⟩
theorem ReadsT.byte (hu : P.underlying t = some (.int .u8)) : ReadsT P W t (fun b : UInt8 => .int .u8 (b.toNat : Int)) (fun _ => True) := by
  intro H enc base spare held fuel cs x h hw0
  obtain ⟨_, ⟨n, rfl⟩, hr⟩ := Reads.byte hu H enc base spare held fuel cs x h hw0
  exact ⟨_, ⟨n, rfl, trivial⟩, hr⟩
theorem ReadsT.bool (hu : P.underlying t = some .bool) : ReadsT P W t (fun b : Bool => .bool b) (fun _ => True) := by
  intro H enc base spare held fuel cs x h hw0
  obtain ⟨_, ⟨n, rfl⟩, hr⟩ := Reads.bool hu H enc base spare held fuel cs x h hw0
  exact ⟨_, ⟨n, rfl, trivial⟩, hr⟩
theorem ReadsT.str (hu : P.underlying t = some .string) : ReadsT P W t (fun s : List UInt8 => .str s) (fun s => s.length ≤ 9223372036854775807) := by
  intro H enc base spare held fuel cs x h hw0
  obtain ⟨s, rfl, hl⟩ := DataW.trod_string hu h
  refine ⟨.str s.data.toList, ⟨_, rfl, ?_⟩, relL_cons ?_ relL_nil⟩
  · first | (simpa [maxLen] using hl.2) | (simpa [maxLen] using hl) | (have := hl.1; simpa [maxLen] using this)
  · have := RelV.str (G := G0 W) (σ := σ0) (w := W) s.data.toList
    simpa using this
theorem map_ex {f : α → DV} {w : α → Prop} : ∀ {ds : List DV}, (∀ x ∈ ds, ∃ a, x = f a ∧ w a) → ∃ l : List α, ds = l.map f ∧ ∀ a ∈ l, w a
  | [], _ => ⟨[], rfl, by simp⟩
  | d :: ds, h => by
    obtain ⟨a, rfl, ha⟩ := h d (by simp)
    obtain ⟨l, rfl, hl⟩ := map_ex (ds := ds) (fun x hx => h x (by simp [hx]))
    exact ⟨a :: l, rfl, by intro b hb; rcases List.mem_cons.1 hb with rfl | hb; exact ha; exact hl b hb⟩
theorem ReadsT.slice {f : α → DV} {w : α → Prop} (hu : P.underlying t = some (.slice e)) (hs : 0 < P.cellsOf e) (he : ReadsT P W e f w) : ReadsT P W t (fun l : List α => .sl (l.map f)) (fun l => (∀ a ∈ l, w a) ∧ l.length * P.bytesOf e ≤ reachBytes) := by
  intro H enc base spare held fuel cs x h hw0
  obtain ⟨_, ⟨ds, rfl, hd, hlb⟩, hr⟩ := Reads.slice hu hs he H enc base spare held fuel cs x h hw0
  obtain ⟨l, rfl, hl⟩ := map_ex hd
  exact ⟨_, ⟨l, rfl, hl, by simpa using hlb⟩, hr⟩
theorem ReadsT.to {f : α → DV} {w : α → Prop} {g : β → DV} {u : β → Prop} (h : ReadsT P W t f w) (k : ∀ a, w a → ∃ b, f a = g b ∧ u b) : ReadsT P W t g u := by
  intro H enc base spare held fuel cs x hx hw0
  obtain ⟨_, ⟨a, rfl, ha⟩, hr⟩ := h H enc base spare held fuel cs x hx hw0
  obtain ⟨b, hb, hu⟩ := k a ha
  exact ⟨_, ⟨b, hb, hu⟩, hr⟩

/-- Structs, by how many fields they have. -/
theorem ReadsT.struct2 {α1 α2 : Type} {f1 : α1 → DV} {w1 : α1 → Prop} {f2 : α2 → DV} {w2 : α2 → Prop} {fs : Array Field} {t1 t2 : TypeId} {o1 o2 : Nat} (hu : P.underlying t = some (.struct fs))
    (hl : fs.toList.map (fun f => (f.type, f.offset)) = [(t1, o1), (t2, o2)]) (r1 : ReadsT P W t1 f1 w1) (r2 : ReadsT P W t2 f2 w2)
    (h1 : o1 = 0) (h2 : o2 = P.cellsOf t1) (hz : P.cellsOf t1 + P.cellsOf t2 = P.cellsOf t) :
    ReadsT P W t (fun a : α1 × α2 => .agg (flat [f1 a.1, f2 a.2])) (fun a => w1 a.1 ∧ w2 a.2) := by
  subst h1; subst h2
  intro H enc base spare held fuel cs x hx hw0
  obtain ⟨_, ⟨ds, rfl, e1, e2⟩, hr⟩ := Reads.struct (Ss := [_, _]) hu hl ⟨_, _, rfl, rfl, r1, _, _, rfl, (by simp), r2, rfl⟩ (by simp only [List.map_cons, List.map_nil, List.sum_cons, List.sum_nil]; omega) H enc base spare held fuel cs x hx hw0
  obtain ⟨d1, d2, rfl⟩ := list2 e1
  obtain ⟨a1, rfl, b1⟩ := e2 0 _ _ rfl rfl
  obtain ⟨a2, rfl, b2⟩ := e2 1 _ _ rfl rfl
  exact ⟨_, ⟨(a1, a2), rfl, b1, b2⟩, hr⟩
theorem ReadsT.struct3 {α1 α2 α3 : Type} {f1 : α1 → DV} {w1 : α1 → Prop} {f2 : α2 → DV} {w2 : α2 → Prop} {f3 : α3 → DV} {w3 : α3 → Prop} {fs : Array Field} {t1 t2 t3 : TypeId} {o1 o2 o3 : Nat} (hu : P.underlying t = some (.struct fs))
    (hl : fs.toList.map (fun f => (f.type, f.offset)) = [(t1, o1), (t2, o2), (t3, o3)]) (r1 : ReadsT P W t1 f1 w1) (r2 : ReadsT P W t2 f2 w2) (r3 : ReadsT P W t3 f3 w3)
    (h1 : o1 = 0) (h2 : o2 = P.cellsOf t1) (h3 : o3 = P.cellsOf t1 + P.cellsOf t2) (hz : P.cellsOf t1 + (P.cellsOf t2 + P.cellsOf t3) = P.cellsOf t) :
    ReadsT P W t (fun a : α1 × α2 × α3 => .agg (flat [f1 a.1, f2 a.2.1, f3 a.2.2])) (fun a => w1 a.1 ∧ w2 a.2.1 ∧ w3 a.2.2) := by
  subst h1; subst h2; subst h3
  intro H enc base spare held fuel cs x hx hw0
  obtain ⟨_, ⟨ds, rfl, e1, e2⟩, hr⟩ := Reads.struct (Ss := [_, _, _]) hu hl ⟨_, _, rfl, rfl, r1, _, _, rfl, (by simp), r2, _, _, rfl, (by simp), r3, rfl⟩ (by simp only [List.map_cons, List.map_nil, List.sum_cons, List.sum_nil]; omega) H enc base spare held fuel cs x hx hw0
  obtain ⟨d1, d2, d3, rfl⟩ := list3 e1
  obtain ⟨a1, rfl, b1⟩ := e2 0 _ _ rfl rfl
  obtain ⟨a2, rfl, b2⟩ := e2 1 _ _ rfl rfl
  obtain ⟨a3, rfl, b3⟩ := e2 2 _ _ rfl rfl
  exact ⟨_, ⟨(a1, a2, a3), rfl, b1, b2, b3⟩, hr⟩
theorem ReadsT.struct4 {α1 α2 α3 α4 : Type} {f1 : α1 → DV} {w1 : α1 → Prop} {f2 : α2 → DV} {w2 : α2 → Prop} {f3 : α3 → DV} {w3 : α3 → Prop} {f4 : α4 → DV} {w4 : α4 → Prop} {fs : Array Field} {t1 t2 t3 t4 : TypeId} {o1 o2 o3 o4 : Nat} (hu : P.underlying t = some (.struct fs))
    (hl : fs.toList.map (fun f => (f.type, f.offset)) = [(t1, o1), (t2, o2), (t3, o3), (t4, o4)]) (r1 : ReadsT P W t1 f1 w1) (r2 : ReadsT P W t2 f2 w2) (r3 : ReadsT P W t3 f3 w3) (r4 : ReadsT P W t4 f4 w4)
    (h1 : o1 = 0) (h2 : o2 = P.cellsOf t1) (h3 : o3 = P.cellsOf t1 + P.cellsOf t2) (h4 : o4 = P.cellsOf t1 + P.cellsOf t2 + P.cellsOf t3) (hz : P.cellsOf t1 + (P.cellsOf t2 + (P.cellsOf t3 + P.cellsOf t4)) = P.cellsOf t) :
    ReadsT P W t (fun a : α1 × α2 × α3 × α4 => .agg (flat [f1 a.1, f2 a.2.1, f3 a.2.2.1, f4 a.2.2.2])) (fun a => w1 a.1 ∧ w2 a.2.1 ∧ w3 a.2.2.1 ∧ w4 a.2.2.2) := by
  subst h1; subst h2; subst h3; subst h4
  intro H enc base spare held fuel cs x hx hw0
  obtain ⟨_, ⟨ds, rfl, e1, e2⟩, hr⟩ := Reads.struct (Ss := [_, _, _, _]) hu hl ⟨_, _, rfl, rfl, r1, _, _, rfl, (by simp), r2, _, _, rfl, (by simp), r3, _, _, rfl, (by simp), r4, rfl⟩ (by simp only [List.map_cons, List.map_nil, List.sum_cons, List.sum_nil]; omega) H enc base spare held fuel cs x hx hw0
  obtain ⟨d1, d2, d3, d4, rfl⟩ := list4 e1
  obtain ⟨a1, rfl, b1⟩ := e2 0 _ _ rfl rfl
  obtain ⟨a2, rfl, b2⟩ := e2 1 _ _ rfl rfl
  obtain ⟨a3, rfl, b3⟩ := e2 2 _ _ rfl rfl
  obtain ⟨a4, rfl, b4⟩ := e2 3 _ _ rfl rfl
  exact ⟨_, ⟨(a1, a2, a3, a4), rfl, b1, b2, b3, b4⟩, hr⟩
theorem ReadsT.struct5 {α1 α2 α3 α4 α5 : Type} {f1 : α1 → DV} {w1 : α1 → Prop} {f2 : α2 → DV} {w2 : α2 → Prop} {f3 : α3 → DV} {w3 : α3 → Prop} {f4 : α4 → DV} {w4 : α4 → Prop} {f5 : α5 → DV} {w5 : α5 → Prop} {fs : Array Field} {t1 t2 t3 t4 t5 : TypeId} {o1 o2 o3 o4 o5 : Nat} (hu : P.underlying t = some (.struct fs))
    (hl : fs.toList.map (fun f => (f.type, f.offset)) = [(t1, o1), (t2, o2), (t3, o3), (t4, o4), (t5, o5)]) (r1 : ReadsT P W t1 f1 w1) (r2 : ReadsT P W t2 f2 w2) (r3 : ReadsT P W t3 f3 w3) (r4 : ReadsT P W t4 f4 w4) (r5 : ReadsT P W t5 f5 w5)
    (h1 : o1 = 0) (h2 : o2 = P.cellsOf t1) (h3 : o3 = P.cellsOf t1 + P.cellsOf t2) (h4 : o4 = P.cellsOf t1 + P.cellsOf t2 + P.cellsOf t3) (h5 : o5 = P.cellsOf t1 + P.cellsOf t2 + P.cellsOf t3 + P.cellsOf t4) (hz : P.cellsOf t1 + (P.cellsOf t2 + (P.cellsOf t3 + (P.cellsOf t4 + P.cellsOf t5))) = P.cellsOf t) :
    ReadsT P W t (fun a : α1 × α2 × α3 × α4 × α5 => .agg (flat [f1 a.1, f2 a.2.1, f3 a.2.2.1, f4 a.2.2.2.1, f5 a.2.2.2.2])) (fun a => w1 a.1 ∧ w2 a.2.1 ∧ w3 a.2.2.1 ∧ w4 a.2.2.2.1 ∧ w5 a.2.2.2.2) := by
  subst h1; subst h2; subst h3; subst h4; subst h5
  intro H enc base spare held fuel cs x hx hw0
  obtain ⟨_, ⟨ds, rfl, e1, e2⟩, hr⟩ := Reads.struct (Ss := [_, _, _, _, _]) hu hl ⟨_, _, rfl, rfl, r1, _, _, rfl, (by simp), r2, _, _, rfl, (by simp), r3, _, _, rfl, (by simp), r4, _, _, rfl, (by simp), r5, rfl⟩ (by simp only [List.map_cons, List.map_nil, List.sum_cons, List.sum_nil]; omega) H enc base spare held fuel cs x hx hw0
  obtain ⟨d1, d2, d3, d4, d5, rfl⟩ := list5 e1
  obtain ⟨a1, rfl, b1⟩ := e2 0 _ _ rfl rfl
  obtain ⟨a2, rfl, b2⟩ := e2 1 _ _ rfl rfl
  obtain ⟨a3, rfl, b3⟩ := e2 2 _ _ rfl rfl
  obtain ⟨a4, rfl, b4⟩ := e2 3 _ _ rfl rfl
  obtain ⟨a5, rfl, b5⟩ := e2 4 _ _ rfl rfl
  exact ⟨_, ⟨(a1, a2, a3, a4, a5), rfl, b1, b2, b3, b4, b5⟩, hr⟩
/-- The reading of one argument. -/
theorem ReadsT.one {f : α → DV} {w : α → Prop} (r : ReadsT P W t f w) {H : Type} {enc : TypeId × Value → H} {v : Value} {d : DataW H} {p : List MemPlace} {spare : Nat → Bool} {held : Bool} {base : Nat} (h : DataW.Trod enc P W base spare held t v d p)
    (hc : ∀ a, (∃ cs, f a = .agg cs ∧ ∃ z, v = .agg z) ∨ ((f a).cells = [f a] ∧ v.cells = #[v])) (hw : ∀ n ∈ d.weights P t, n ≤ reachBytes) : ∃ a, w a ∧ RelV (G0 W) σ0 W (f a) v := by
  obtain ⟨fuel, hf⟩ := h
  obtain ⟨_, ⟨a, rfl, ha⟩, hr⟩ := r H enc base spare held fuel _ _ hf hw
  refine ⟨a, ha, ?_⟩
  rcases hc a with ⟨cs, h1, z, rfl⟩ | ⟨h1, h2⟩
  · rw [h1] at hr ⊢
    have e : (⟨z.toList⟩ : Array Value) = z := by cases z; rfl
    rw [← e]
    exact .agg _ _ hr.1 hr.2
  · rw [h1, h2] at hr
    exact hr.2 0 _ _ rfl rfl
end
end Go.Val
