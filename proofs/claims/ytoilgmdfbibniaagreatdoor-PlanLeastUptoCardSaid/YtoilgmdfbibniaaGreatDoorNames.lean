/- package parse: names in brackets, sets. -/
import Derived.Test.YtoilgmdfbibniaaGreatDoorItem
set_option linter.unusedSimpArgs false
set_option linter.unusedVariables false
set_option maxRecDepth 20000
namespace Go.Proofs.YtoilgmdfbibniaaGreatDoor
open Go Go.RowKit

/-- a slice of texts that the reader has made -/
def repStrs (rb : Nat) (w : World) (u : Value) (l : List ByteArray) : Prop := StrsR (fun b => b ≠ rb ∧ 9 ≤ b ∧ tyOf w b = some 9) w u l ∧ l.length ≤ 4097

theorem tyOf_keep {w w' : World} {r : Option Nat} (hg : w.grownBy w' r) {b : Nat} {t : TypeId} (h : tyOf w b = some t) (hr : some b ≠ r) : tyOf w' b = some t := by
  have hlt : b < w.heap.size := by
    rcases Nat.lt_or_ge b w.heap.size with h' | h'
    · exact h'
    · simp [tyOf, Array.getElem?_eq_none h'] at h
  unfold tyOf at h ⊢
  rw [hg.block b hlt hr]
  exact h

theorem repStrs_keeps {rb : Nat} {t : TypeId} (ht : t ≠ 9) : Keeps rb t (repStrs rb) := by
  intro w w' u y r h hg hr
  have hne : ∀ k, k ≠ rb ∧ 9 ≤ k ∧ tyOf w k = some 9 → some k ≠ r := by
    intro k hk e
    rcases hr k e.symm with h | h
    · exact hk.1 h
    · rw [hk.2.2] at h; exact ht (by cases h; rfl)
  refine ⟨?_, h.2⟩
  obtain ⟨a, c, hv, hn, hm, hc⟩ := h.1
  refine ⟨a, c, hv, hn, hm, ?_⟩
  rcases hc with hc | ⟨g, o, ha, hf, hc⟩
  · exact .inl hc
  · exact .inr ⟨g, o, ha, ⟨hf.1, hf.2.1, tyOf_keep hg hf.2.2 (hne g hf)⟩, fun j u hj => hg.cell (hc j u hj) (hne g hf)⟩

theorem sliceRep_strs {F : Nat → Prop} {w : World} {u : Value} {ys : List ByteArray} (h : SliceRep repStr F w u ys) : StrsR F w u ys := by
  obtain ⟨us, hl, hr, hrd⟩ := h
  have he : us.flatMap cellsOf = ys.map Value.string := by
    clear hrd
    induction us generalizing ys with
    | nil => cases ys with
      | nil => rfl
      | cons y ys => simp at hl
    | cons u us ih => cases ys with
      | nil => simp at hl
      | cons y ys =>
        have h0 : u = .string y := hr 0 u y rfl rfl
        rw [List.flatMap_cons, List.map_cons, ih (by simpa using hl) (fun i u y hu hy => hr (i + 1) u y (by simpa using hu) (by simpa using hy)), h0]
        rfl
  rw [he] at hrd
  exact hrd

def namesF (ws : List W3) (p : Nat) : Option (List ByteArray × Nat) := match mustN ws p openL with
  | none => none
  | some q => match sevF ws (nameF ws) q with
    | none => none
    | some (ys, q1) => match mustN ws q1 closeL with
      | none => none
      | some q2 => some (ys, q2)

theorem mustN_gt {ws : List W3} {p q : Nat} {s : ByteArray} {l : List ByteArray} (he : EndOk ws) (hp : p < ws.length) (h : mustN ws p (s :: l) = some q) : p < q := by
  rw [mustN, List.getElem?_eq_getElem hp] at h
  simp only at h
  split at h
  · rename_i hw
    have := mustN_lt he l (p + 1) q (he p _ (List.getElem?_eq_getElem hp) (isW_kind hw)) h
    omega
  · cases h

set_option maxHeartbeats 2000000 in
theorem names_one {v : Value} {rb : Nat} {ws : List W3} (he : EndOk ws) : OneOk 162 v rb ws (repStrs rb) (namesF ws) := by
  intro p w ha hp h9
  have hrl := ha.lt
  have HE : Hid (namesF ws p = match mustN ws p openL with
    | none => none
    | some q => match sevF ws (nameF ws) q with
      | none => none
      | some (ys, q1) => match mustN ws q1 closeL with
        | none => none
        | some q2 => some (ys, q2)) := rfl
  generalize namesF ws p = r at *
  have hg1 := World.grownBy_alloc w (.cells (openL.map Value.string).toArray 9) none
  have hbs := heap_new w (.cells (openL.map Value.string).toArray 9) _ rfl
  have HM := must_any he (ha.keep hg1) hp (sv := .slice (some ⟨w.heap.size, 0, none⟩) 1 1) (strs_blk hbs (by show w.heap.size ≠ rb; omega) rfl (by unfold maxLen; omega))
  have hlt := fun q => mustN_gt (q := q) (s := (⟨#[40]⟩ : ByteArray)) (l := []) he hp
  have hlt' := mustN_lt he openL p
  clear hbs
  go_enter Tryz.func162, Tryz.ntmps162
  go_wp2_with fail
  refine HM.mono ?_
  clear HM
  rintro e w2 (⟨q, hm, rfl, hg2, ha2⟩ | ⟨hm, c, a, rfl, hc, hg2⟩)
  · have hg02 := gr_trans (gr_some hg1 (some rb)) hg2
    have hpq := hlt q hm
    have hql := (hlt' q hp hm).1
    simp only [hm] at HE
    have HS := several_Str (m := 113) (fun args w => by kernel_rfl) he (rep := repStr) (fun w w' u y r h _ _ => h) (fun w u y h => ⟨y, h, rfl⟩) (name_one he) ha2 hql (by have := hg02.size; omega)
    clear hlt hlt' hm hg1 hg2 ha ha2
    go_wp2_with fail
    refine HS.mono ?_
    clear HS
    rintro e w3 (⟨q1, ys, u, hm, hqq, hq1l, hne, hyl, rfl, hrep, hg3, ha3⟩ | ⟨hm, c, a, rfl, hc, hg3⟩)
    · have hg03 := gr_trans hg02 hg3
      have hrs : repStrs rb w3 u ys := ⟨sliceRep_strs hrep, hyl⟩
      simp only [hm] at HE
      have hsz := hg03.size
      have hg4 := World.grownBy_alloc w3 (.cells (closeL.map Value.string).toArray 9) none
      have hbs := heap_new w3 (.cells (closeL.map Value.string).toArray 9) _ rfl
      have HM := must_any he (ha3.keep hg4) hq1l (sv := .slice (some ⟨w3.heap.size, 0, none⟩) 1 1) (strs_blk hbs (by show w3.heap.size ≠ rb; omega) rfl (by unfold maxLen; omega))
      have hg04 := gr_trans hg03 (gr_some hg4 (some rb))
      have hrs4 := (repStrs_keeps (t := 116) (by decide)).rb hrs (gr_some hg4 (some rb))
      have hlt' := mustN_lt he closeL q1
      clear hbs hrep hrs hm ha3
      go_wp2_with fail
      refine HM.mono ?_
      clear HM
      rintro e w5 (⟨q2, hm, rfl, hg5, ha5⟩ | ⟨hm, c, a, rfl, hc, hg5⟩)
      · have hq2 := hlt' q2 hq1l hm
        have hrs5 := (repStrs_keeps (t := 116) (by decide)).rb hrs4 hg5
        simp only [hm] at HE
        go_wp2_with fail
        go_ret
        exact .inl ⟨q2, ys, _, HE.out, by omega, hq2.1, rfl, hrs5, gr_trans hg04 hg5, ha5⟩
      · simp only [hm] at HE
        go_wp2_with fail
        exact ⟨rfl, .inr ⟨HE.out, c, a, rfl, hc, gr_trans hg04 hg5⟩⟩
    · simp only [hm] at HE
      go_wp2_with fail
      exact ⟨rfl, .inr ⟨HE.out, c, a, rfl, hc, gr_trans hg02 hg3⟩⟩
  · simp only [hm] at HE
    go_wp2_with fail
    exact ⟨rfl, .inr ⟨HE.out, c, a, rfl, hc, gr_trans (gr_some hg1 _) hg2⟩⟩
end Go.Proofs.YtoilgmdfbibniaaGreatDoor
