/- package sets: the sets of a plain element. -/
import Derived.Test.YtoilgmdfbibniaaGreatDoorCross
import Derived.Test.YtoilgmdfbibniaaGreatDoorSev
set_option linter.unusedSimpArgs false
set_option linter.unusedVariables false
set_option maxRecDepth 20000
namespace Go.Proofs.YtoilgmdfbibniaaGreatDoor
open Go Go.RowKit

/-- a slice of numbers in a block of numbers -/
def repInts (B : Nat) (w : World) (u : Value) (l : List Int) : Prop := IntsR (fun b => B ≤ b ∧ tyOf w b = some 3) w u l
theorem tyOf_keep' {w w' : World} {r : Option Nat} (hg : w.grownBy w' r) {b : Nat} {t : TypeId} (h : tyOf w b = some t) (hr : some b ≠ r) : tyOf w' b = some t := by
  have hlt : b < w.heap.size := by
    rcases Nat.lt_or_ge b w.heap.size with h' | h'
    · exact h'
    · simp [tyOf, Array.getElem?_eq_none h'] at h
  unfold tyOf at h ⊢
  rw [hg.block b hlt hr]
  exact h
theorem repInts.keep {B : Nat} {w w' : World} {u : Value} {l : List Int} {r : Option Nat} (h : repInts B w u l) (hg : w.grownBy w' r) (hr : ∀ b, r = some b → tyOf w b ≠ some 3) : repInts B w' u l := by
  obtain ⟨a, c, hv, hn, hm, hc⟩ := h
  refine ⟨a, c, hv, hn, hm, ?_⟩
  rcases hc with hc | ⟨g, o, ha, hf, hc⟩
  · exact .inl hc
  · have hne : some g ≠ r := fun e => hr g e.symm hf.2
    exact .inr ⟨g, o, ha, ⟨hf.1, tyOf_keep' hg hf.2 hne⟩, fun j u hj => hg.cell (hc j u hj) hne⟩
theorem repInts.mono {B B' : Nat} {w : World} {u : Value} {l : List Int} (h : repInts B w u l) (hB : B' ≤ B) : repInts B' w u l := Rd.mono h (fun k hk => ⟨Nat.le_trans hB hk.1, hk.2⟩)

theorem Clip_ints {B : Nat} (v : Value) (xs : List Value) (w : World) (h : w.ownsRow B 3 1 v xs.length xs) (hl : xs.length ≤ 1000) :
    Calls Tryz.prog 95 #[v] w fun e w' => ∃ u, e = .returned u ∧ w = w' ∧ Rd (fun b => B ≤ b ∧ tyOf w b = some 3) w u xs.length xs := by
  have hr := Rd.ownT h
  rcases h.2 with ⟨rfl, h0⟩ | ⟨g, cap, cur, rfl, _, _, hn, _⟩
  · generalize xs.length = n at *
    subst h0
    go_enter Tryz.func95, Tryz.ntmps95
    go_wp2_with fail
    go_ret
    exact ⟨_, rfl, rfl, hr⟩
  · have hr2 := hr.clip (by unfold maxLen; omega)
    clear hr h
    generalize xs.length = n at *
    go_enter Tryz.func95, Tryz.ntmps95
    go_wp2_with fail
    go_ret
    exact ⟨_, rfl, rfl, hr2⟩

set_option maxHeartbeats 2000000 in
theorem own_plain {F F' : Nat → Prop} {vd vc vs : Value} {ds cols : List ByteArray} {sets : List (List ByteArray)} {w : World} (hd : StrsR F w vd ds) (hvc : StrsR F' w vc cols) (hvs : RowsR F' w vs sets) :
    Calls Tryz.prog 93 #[vd, .agg #[.int .i64 1, vc, vs]] w fun e w' => ∃ u, e = .returned u ∧ repInts w.heap.size w' u [ofNames ds cols] ∧ w.grownBy w' none := by
  obtain ⟨ad, cd, rfl, -, -⟩ := hd.slice
  obtain ⟨ac1, cc1, rfl, -, -⟩ := hvc.slice
  obtain ⟨as1, cs1, rfl, -, -⟩ := hvs.slice
  clear hvs
  have hg1 := World.grownBy_alloc w (.cells #[.slice ad ds.length cd] 23) none
  have b1 := heap_new w (.cells #[.slice ad ds.length cd] 23) _ rfl
  have hg2 := gr_alloc hg1 (.cells #[.int .i64 1, .slice ac1 cols.length cc1, .slice as1 sets.length cs1] 91)
  have b12 := heap_old _ (.cells #[.int .i64 1, .slice ac1 cols.length cc1, .slice as1 sets.length cs1] 91) _ _ b1
  have HO := own1_any (hd.keep hg2 (by simp)) (blk_cell (l := [_]) b12 0 _ rfl) (hvc.keep hg2 (by simp))
  clear b1 b12 hg1 hd hvc
  generalize ofNames ds cols = x at *
  go_enter Tryz.func93, Tryz.ntmps93
  go_wp2_with fail
  refine HO.mono ?_
  clear HO
  rintro e w2 ⟨rfl, hg3⟩
  have hg03 := gr_trans hg2 hg3
  clear hg2 hg3
  go_wp2_with (at_builtin; refine app1 rfl _ _ 25 3 rfl Tryz.underlying25 (.int .i64 0) 1 8 infoInt rfl (by decide) (World.ownsRow_nil w2 w.heap.size _ _) [.int .i64 x] rfl rfl rfl (by intro u hu; simp at hu; subst hu; rfl) hg03.size (by omega) (by unfold maxLen; omega) ?_)
  intro v1 w3 hown hg4 _ _
  have hg04 := gr_trans' hg03 hg4 (by simp [Value.ownBlock])
  have hr : repInts w.heap.size w3 v1 [x] := Rd.ownT hown
  clear hown hg4
  go_wp2_with fail
  go_ret
  exact ⟨_, rfl, hr, hg04⟩
end Go.Proofs.YtoilgmdfbibniaaGreatDoor
