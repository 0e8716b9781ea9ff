/- package parse: a query of words. -/
import Derived.Test.YtoilgmdfbibniaaGreatDoorElem
set_option linter.unusedSimpArgs false
set_option linter.unusedVariables false
set_option maxRecDepth 20000
namespace Go.Proofs.YtoilgmdfbibniaaGreatDoor
open Go Go.RowKit

def Ft (rb : Nat) (te : TypeId) (w : World) (b : Nat) : Prop := b ≠ rb ∧ 9 ≤ b ∧ tyOf w b = some te
theorem sliceRep_keeps {α : Type} {rb : Nat} {t te : TypeId} {rep : World → Value → α → Prop} (hk : Keeps rb t rep) (hne : t ≠ te) : Keeps rb t (fun w u (l : List α) => SliceRep rep (Ft rb te w) w u l) := by
  intro w w' u y r h hg hr
  have hn : ∀ k, Ft rb te w k → some k ≠ r := by
    intro k hk e
    rcases hr k e.symm with h | h
    · exact hk.1 h
    · rw [hk.2.2] at h; exact hne (by cases h; rfl)
  obtain ⟨us, hl, hreps, hrd⟩ := h
  refine ⟨us, hl, fun i u y hu hy => hk w w' u y r (hreps i u y hu hy) hg hr, ?_⟩
  obtain ⟨a, c, hv, hn', hm, hc⟩ := hrd
  refine ⟨a, c, hv, hn', hm, ?_⟩
  rcases hc with hc | ⟨g, o, ha, hf, hc⟩
  · exact .inl hc
  · exact .inr ⟨g, o, ha, ⟨hf.1, hf.2.1, tyOf_keep hg hf.2.2 (hn g hf)⟩, fun j u hj => hg.cell (hc j u hj) (hn g hf)⟩

/-- what is kept while the query is read -/
def KeptQ (rb : Nat) (G : World → Prop) : Prop := ∀ W W' r, G W → W.grownBy W' r → (∀ b, r = some b → b = rb ∨ tyOf W b = some 45) → G W'
theorem KeptQ.and {rb : Nat} {G : World → Prop} (h : KeptQ rb G) {α : Type} {rep : World → Value → α → Prop} (hk : Keeps rb 45 rep) (u : Value) (y : α) : KeptQ rb (fun W => G W ∧ rep W u y) :=
  fun W W' r hG hg hr => ⟨h W W' r hG.1 hg hr, hk W W' u y r hG.2 hg hr⟩
theorem KeptQ.true (rb : Nat) : KeptQ rb (fun _ => True) := fun _ _ _ _ _ _ => trivial

structure QInv (rb : Nat) (v : Value) (ws : List W3) (w : World) (B : Nat) (cs : List Value) (G : World → Prop) (p : Nat) (W : World) : Prop where
  gr : w.grownBy W (some rb)
  at_ : AtR v rb ws p W
  b0 : W.heap[w.heap.size]? = some (.cells #[.slice none 0 0, .string ⟨#[]⟩, .pointer none, .bool false, .slice none 0 0] 45 (0, 0))
  lt : w.heap.size < B
  b1 : W.heap[B]? = some (.cells cs.toArray 45 (0, 0))
  good : G W
theorem QInv.step {rb : Nat} {v : Value} {ws : List W3} {w : World} {B : Nat} {cs : List Value} {G : World → Prop} {p p' : Nat} {W W' : World} (h : QInv rb v ws w B cs G p W) (hK : KeptQ rb G) (hrl : rb < w.heap.size) (hg : W.grownBy W' (some rb)) (ha : AtR v rb ws p' W') : QInv rb v ws w B cs G p' W' :=
  ⟨gr_trans h.gr hg, ha, gr_blk hg h.b0 (by simp; omega), h.lt, gr_blk hg h.b1 (by have := h.lt; simp; omega), hK _ _ _ h.good hg (fun b e => .inl (by cases e; rfl))⟩
theorem QInv.alloc {rb : Nat} {v : Value} {ws : List W3} {w : World} {B : Nat} {cs : List Value} {G : World → Prop} {p : Nat} {W : World} (h : QInv rb v ws w B cs G p W) (hK : KeptQ rb G) (hrl : rb < w.heap.size) (o : Obj) : QInv rb v ws w B cs G p (W.alloc o) :=
  h.step hK hrl (World.grownBy_alloc W o _) (h.at_.keep (World.grownBy_alloc W o _))
theorem QInv.put {rb : Nat} {v : Value} {ws : List W3} {w : World} {B : Nat} {cs : List Value} {G : World → Prop} {p : Nat} {W : World} (h : QInv rb v ws w B cs G p W) (hK : KeptQ rb G) (hrl : rb < w.heap.size) (k : Nat) (u : Value) : QInv rb v ws w B (cs.set k u) G p (W.setCell ⟨B, k, none⟩ u) := by
  have hlt := h.lt
  refine ⟨gr_set (p := ⟨B, k, none⟩) h.gr (by show w.heap.size ≤ B; omega) _, h.at_.put2 (by omega) k u, blk_set_ne h.b0 (by omega) _ _, h.lt, ?_, ?_⟩
  · have := blk_set h.b1 k u
    rw [this]; congr 2
    exact Array.ext' (by simp)
  · exact hK _ _ (some B) h.good (gr_setR (p := ⟨B, k, none⟩) (gr_refl _ _) rfl _) (fun b e => .inr (by cases e; unfold tyOf; rw [h.b1]))
theorem QInv.good' {rb : Nat} {v : Value} {ws : List W3} {w : World} {B : Nat} {cs : List Value} {G G' : World → Prop} {p : Nat} {W : World} (h : QInv rb v ws w B cs G p W) (hg : G' W) : QInv rb v ws w B cs G' p W := ⟨h.gr, h.at_, h.b0, h.lt, h.b1, hg⟩
theorem QInv.size {rb : Nat} {v : Value} {ws : List W3} {w : World} {B : Nat} {cs : List Value} {G : World → Prop} {p : Nat} {W : World} (h : QInv rb v ws w B cs G p W) : B < W.heap.size := blk_lt h.b1

/-- a query, its condition of some kind -/
structure QueryS (α : Type) where
  items : List ItemS
  table : ByteArray
  wh : Option α
  grouped : Bool
  groups : List GroupS
def selectL : List ByteArray := [(⟨#[83, 69, 76, 69, 67, 84]⟩ : ByteArray)]
def fromL : List ByteArray := [(⟨#[70, 82, 79, 77]⟩ : ByteArray)]
def whereL : List ByteArray := [(⟨#[87, 72, 69, 82, 69]⟩ : ByteArray)]
def groupL : List ByteArray := [(⟨#[71, 82, 79, 85, 80]⟩ : ByteArray)]
def byL : List ByteArray := [(⟨#[66, 89]⟩ : ByteArray)]
def endF {α : Type} (ws : List W3) (q : Nat) (y : QueryS α) : Option (QueryS α) := match ws[q]? with
  | none => none
  | some x => if x.1 = 6 then some y else none
def groupsF {α : Type} (ws : List W3) (q : Nat) (its : List ItemS) (t : ByteArray) (wh : Option α) : Option (QueryS α) := match ws[q]? with
  | none => none
  | some x => if 0 ≤ idxW x groupL 0 then match mustN ws (q + 1) byL with
      | none => none
      | some q1 => match sevF ws (elementF ws) q1 with
        | none => none
        | some (gs, q2) => endF ws q2 ⟨its, t, wh, true, gs⟩
    else endF ws q ⟨its, t, wh, false, []⟩
def tailF {α : Type} (ws : List W3) (orF : Nat → Option (α × Nat)) (q : Nat) (its : List ItemS) (t : ByteArray) : Option (QueryS α) := match ws[q]? with
  | none => none
  | some x => if 0 ≤ idxW x whereL 0 then match orF (q + 1) with
      | none => none
      | some (c, q1) => groupsF ws q1 its t (some c)
    else groupsF ws q its t none
def queryF {α : Type} (ws : List W3) (orF : Nat → Option (α × Nat)) (p : Nat) : Option (QueryS α) := match mustN ws p selectL with
  | none => none
  | some q => match sevF ws (itemF ws) q with
    | none => none
    | some (its, q1) => match mustN ws q1 fromL with
      | none => none
      | some q2 => match nameF ws q2 with
        | none => none
        | some (t, q3) => tailF ws orF q3 its t

def repWhere {α : Type} (rep : World → Value → α → Prop) (w : World) (u : Value) (o : Option α) : Prop := match o with
  | none => u = .pointer none
  | some c => rep w u c
def repItems (rb : Nat) (w : World) (u : Value) (l : List ItemS) : Prop := SliceRep repItem (Ft rb 81 w) w u l
def repGroups (rb : Nat) (w : World) (u : Value) (l : List GroupS) : Prop := SliceRep (repGroup rb) (Ft rb 91 w) w u l
def repQuery {α : Type} (rb : Nat) (rep : World → Value → α → Prop) (w : World) (u : Value) (y : QueryS α) : Prop :=
  ∃ vi vw vg, u = .agg #[vi, .string y.table, vw, .bool y.grouped, vg] ∧ repItems rb w vi y.items ∧ repWhere rep w vw y.wh ∧ repGroups rb w vg y.groups
theorem repItems_keeps {rb : Nat} {t : TypeId} (ht : t ≠ 81) : Keeps rb t (repItems rb) := sliceRep_keeps (fun _ _ _ _ _ h _ _ => h) ht
theorem repGroups_keeps {rb : Nat} {t : TypeId} (h1 : t ≠ 9) (h2 : t ≠ 23) (h3 : t ≠ 91) : Keeps rb t (repGroups rb) := sliceRep_keeps (repGroup_keeps h1 h2) h3
theorem repWhere_keeps {α : Type} {rb : Nat} {t : TypeId} {rep : World → Value → α → Prop} (h : Keeps rb t rep) : Keeps rb t (repWhere rep) := by
  intro w w' u y r hr hg hb
  cases y with
  | none => exact hr
  | some c => exact h w w' u c r hr hg hb
theorem sliceRep_slice {α : Type} {rep : World → Value → α → Prop} {F : Nat → Prop} {w : World} {u : Value} {l : List α} (h : SliceRep rep F w u l) : ∃ a c, u = .slice a l.length c := by
  obtain ⟨_, _, _, a, c, e, _⟩ := h; exact ⟨a, c, e⟩
theorem repGroups_nil (rb : Nat) (w : World) : repGroups rb w (.slice none 0 0) [] := ⟨[], rfl, by simp, Rd.nil _ _⟩

/-- how the reading of a query ends -/
def QPost {α : Type} (rb : Nat) (rep : World → Value → α → Prop) (w : World) (r : Option (QueryS α)) (e : Ending) (w' : World) : Prop :=
  (∃ y u, r = some y ∧ e = .returned u ∧ repQuery rb rep w' u y ∧ w.grownBy w' (some rb)) ∨ (r = none ∧ Bad rb w e w')

/-- the result's block, written -/
theorem query_done {α : Type} {rb : Nat} {rep : World → Value → α → Prop} {v : Value} {ws : List W3} {w W : World} {B p : Nat} {y : QueryS α} {vi vw vg : Value} {G : World → Prop} (hk : Keeps rb 45 rep) (hrl : rb < w.heap.size)
    (h : QInv rb v ws w B [vi, .string y.table, vw, .bool y.grouped, vg] G p W) (h1 : repItems rb W vi y.items) (h2 : repWhere rep W vw y.wh) (h3 : repGroups rb W vg y.groups) :
    ∃ W2, W2 = (((((W.setCell ⟨w.heap.size, 0, none⟩ vi).setCell ⟨w.heap.size, 1, none⟩ (.string y.table)).setCell ⟨w.heap.size, 2, none⟩ vw).setCell ⟨w.heap.size, 3, none⟩ (.bool y.grouped)).setCell ⟨w.heap.size, 4, none⟩ vg) ∧
      W2.heap[w.heap.size]? = some (.cells #[vi, .string y.table, vw, .bool y.grouped, vg] 45 (0, 0)) ∧ repQuery rb rep W2 (.agg #[vi, .string y.table, vw, .bool y.grouped, vg]) y ∧ w.grownBy W2 (some rb) := by
  have ht : tyOf W w.heap.size = some 45 := by unfold tyOf; rw [h.b0]
  have hk1 : ∀ k, some w.heap.size = some k → k = rb ∨ tyOf W k = some 45 := fun k e => .inr (by cases e; exact ht)
  have hgg := gr_setR (p := ⟨w.heap.size, 4, none⟩) (gr_setR (p := ⟨w.heap.size, 3, none⟩) (gr_setR (p := ⟨w.heap.size, 2, none⟩) (gr_setR (p := ⟨w.heap.size, 1, none⟩) (gr_setR (p := ⟨w.heap.size, 0, none⟩) (gr_refl W (some w.heap.size)) rfl vi) rfl (.string y.table)) rfl vw) rfl (.bool y.grouped)) rfl vg
  have hg2 := gr_set (p := ⟨w.heap.size, 4, none⟩) (gr_set (p := ⟨w.heap.size, 3, none⟩) (gr_set (p := ⟨w.heap.size, 2, none⟩) (gr_set (p := ⟨w.heap.size, 1, none⟩) (gr_set (p := ⟨w.heap.size, 0, none⟩) h.gr (Nat.le_refl _) vi) (Nat.le_refl _) (.string y.table)) (Nat.le_refl _) vw) (Nat.le_refl _) (.bool y.grouped)) (Nat.le_refl _) vg
  have hb := blk_set (blk_set (blk_set (blk_set (blk_set h.b0 0 vi) 1 (.string y.table)) 2 vw) 3 (.bool y.grouped)) 4 vg
  refine ⟨_, rfl, hb, ?_, hg2⟩
  generalize (World.setCell (World.setCell _ _ _) _ _) = W2 at *
  exact ⟨vi, vw, vg, rfl, repItems_keeps (t := 45) (by decide) W W2 vi y.items (some w.heap.size) h1 hgg hk1, repWhere_keeps hk W W2 vw y.wh (some w.heap.size) h2 hgg hk1, repGroups_keeps (t := 45) (by decide) (by decide) (by decide) W W2 vg y.groups (some w.heap.size) h3 hgg hk1⟩
end Go.Proofs.YtoilgmdfbibniaaGreatDoor
