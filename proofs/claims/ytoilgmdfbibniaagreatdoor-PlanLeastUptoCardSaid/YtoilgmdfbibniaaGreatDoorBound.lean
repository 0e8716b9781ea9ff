/- caissonlaw19.bound at the chapter's text. -/
import Derived.Test.YtoilgmdfbibniaaGreatDoorText0
import Derived.Test.YtoilgmdfbibniaaGreatDoorBind
set_option linter.unusedSimpArgs false
set_option linter.unusedVariables false
set_option maxRecDepth 20000
namespace Go.Proofs.YtoilgmdfbibniaaGreatDoor
open Go Go.RowKit

theorem where_nil (m : Value) (w : World) : Calls Tryz.prog 37 #[m, .pointer none] w fun e w' => e = .returned (.tuple #[.pointer none, .int .i64 0]) ∧ w = w' := by
  go_enter Tryz.func37, Tryz.ntmps37
  go_wp2_with fail
  go_ret2
  exact ⟨rfl, rfl⟩
def own0 : GroupS → List Int := fun g => [ofNames dimsL g.2.1]
theorem exp0 : expandF dimsL y0.groups own0 = ([1], 0) := by kernel_rfl
theorem bindOk0 : BindOk y0.items y0.table y0.grouped y0.groups true true own0 := by
  refine ⟨right0, rfl, ?_, rfl, ?_, by rw [exp0], ?_⟩
  · intro y hy
    have h : (y0.items.all fun y => (pickF cols0 y.1 y.2).2.2 == 0) = true := by kernel_rfl
    simpa using List.all_eq_true.1 h y hy
  · intro g hg
    have h : (y0.groups.all fun g => dimsF cols0 (g.2.1 ++ g.2.2.flatten) == 0) = true := by kernel_rfl
    simpa using List.all_eq_true.1 h g hg
  · intro y hy
    have h : (y0.items.all fun y => inUnion (unionF (expandF dimsL y0.groups own0).1) y) = true := by kernel_rfl
    exact List.all_eq_true.1 h y hy
/-- The query, bound. -/
theorem bound_0 {w : World} (hG : Glob w) : Calls Tryz.prog 13 #[.string s0] w fun e w' => ∃ ap np cp an nn cn as' cs, e = .returned (.tuple #[.agg #[.slice ap np cp, .slice an nn cn, .pointer none, .slice as' 1 cs], .bool true]) ∧ IntsR (· < w'.heap.size) w' (.slice as' 1 cs) [1] ∧ w.grownBy w' none := by
  have hga := World.grownBy_alloc w (.cells #[.slice none 0 0, .slice none 0 0, .pointer none, .slice none 0 0] 27) none
  have b0 := heap_new w (.cells #[.slice none 0 0, .slice none 0 0, .pointer none, .slice none 0 0] 27) _ rfl
  have HP := Parse_0 (hG.keepN hga)
  go_enter Tryz.func13, Tryz.ntmps13
  go_wp2_with fail
  generalize (w.alloc _) = w1 at *
  refine HP.mono ?_
  clear HP
  rintro e w2 ⟨u, rfl, ⟨vi, vg, rfl, hi, hvg⟩, hg2⟩
  have hgr := gr_trans hga hg2
  have b2 := gr_blk hg2 b0 (by simp)
  clear hga b0 hg2
  obtain ⟨ai, ci, rfl, hci, hmi⟩ := hi.slice
  obtain ⟨ag, cg, rfl, hcg, hmg⟩ := hvg.slice
  have hq := World.grownBy_alloc w2 (.cells #[.slice ai y0.items.length ci, .string y0.table, .pointer none, .bool y0.grouped, .slice ag y0.groups.length cg] 45) none
  have q1 := heap_new w2 (.cells #[.slice ai y0.items.length ci, .string y0.table, .pointer none, .bool y0.grouped, .slice ag y0.groups.length cg] 45) _ rfl
  have hq2 := gr_alloc hq (.cells #[.int .i64 0, .int .i64 0] 48)
  have q2 := heap_old _ (.cells #[.int .i64 0, .int .i64 0] 48) _ _ q1
  have f2 := heap_new (w2.alloc (.cells #[.slice ai y0.items.length ci, .string y0.table, .pointer none, .bool y0.grouped, .slice ag y0.groups.length cg] 45)) (.cells #[.int .i64 0, .int .i64 0] 48) (w2.heap.size + 1) (by simp)
  have sz2 : ((w2.alloc (.cells #[.slice ai y0.items.length ci, .string y0.table, .pointer none, .bool y0.grouped, .slice ag y0.groups.length cg] 45)).alloc (.cells #[.int .i64 0, .int .i64 0] 48)).heap.size = w2.heap.size + 1 + 1 := by simp
  go_wp2_with fail
  generalize ((w2.alloc _).alloc _) = w3 at *
  have hg3 := gr_trans hgr hq2
  have b3 := gr_blk hq2 b2 (by simp)
  clear b2 q1 hq hgr
  have hd4 : StrsR (w3.heap.size ≤ ·) (w3.alloc (.cells #[.string ⟨#[97]⟩, .string ⟨#[98]⟩, .string ⟨#[99]⟩] 9)) (.slice (some ⟨w3.heap.size, 0, none⟩) 3 3) dimsL := Rd.lit w3 [.string ⟨#[97]⟩, .string ⟨#[98]⟩, .string ⟨#[99]⟩] 9 3 (by decide)
  have hm5 : StrsR (w3.heap.size + 1 ≤ ·) ((w3.alloc (.cells #[.string ⟨#[97]⟩, .string ⟨#[98]⟩, .string ⟨#[99]⟩] 9)).alloc (.cells #[.string ⟨#[109]⟩, .string ⟨#[110]⟩] 9)) (.slice (some ⟨w3.heap.size + 1, 0, none⟩) 2 2) measL := by
    have h := Rd.lit (w3.alloc (.cells #[.string ⟨#[97]⟩, .string ⟨#[98]⟩, .string ⟨#[99]⟩] 9)) [.string ⟨#[109]⟩, .string ⟨#[110]⟩] 9 2 (by decide)
    rw [show (w3.alloc (.cells #[.string ⟨#[97]⟩, .string ⟨#[98]⟩, .string ⟨#[99]⟩] 9)).heap.size = w3.heap.size + 1 by simp] at h
    exact h
  have hgA := World.grownBy_alloc w3 (.cells #[.string ⟨#[97]⟩, .string ⟨#[98]⟩, .string ⟨#[99]⟩] 9) none
  have hgB := World.grownBy_alloc (w3.alloc (.cells #[.string ⟨#[97]⟩, .string ⟨#[98]⟩, .string ⟨#[99]⟩] 9)) (.cells #[.string ⟨#[109]⟩, .string ⟨#[110]⟩] 9) none
  have hgC := gr_trans hgA hgB
  have hd5 := Rd.lt2 (Rd.keep hd4 hgB (by simp))
  have hm6 := Rd.lt2 hm5
  have hg5 := gr_trans hg3 hgC
  have hsz := hgC.size
  have hq5 := gr_trans hq2 hgC
  have hi5 := hi.grow hq5 (by simp)
  have hvg5 := hvg.grow hq5 (by simp)
  have b5 := gr_blk hgC b3 (by simp)
  have hwl := blk_lt b5
  rw [← sz2]
  clear hd4 hm5 hgA hgB hgC b3 hi hvg hq2 hq5 hg3 hsz q2 f2
  generalize ((w3.alloc _).alloc _) = w5 at *
  refine (Bind_any (F := (· < w5.heap.size)) (bw := true) (wok := true) (ownF := own0) (RT := fun pt _ => pt = none) (hG.keep hg5 (by simp)) (fun k h => h) hd5 hm6 hi5 hvg5 ?_ ?_ ?_ ?_ ?_).mono ?_
  · intro g hg
    have h : g = (1, [⟨#[97]⟩], []) := by simpa [y0] using hg
    subst h
    exact ⟨by simp, by intro s hs; simp at hs; subst hs; decide, by simp⟩
  · intro W nb _ _ _
    exact (walk_nil _ _ _ W).mono (by rintro e w' ⟨rfl, rfl⟩; exact ⟨rfl, gr_refl _ _⟩)
  · intro _ W b _ _ _
    exact (where_nil _ W).mono (by rintro e w' ⟨rfl, rfl⟩; exact ⟨gr_refl _ _, .inr ⟨rfl, none, rfl, rfl⟩⟩)
  · intro pt W W' r h _ _
    exact h
  · intro g hg W vc vs hgW h1 h2
    have h : g = (1, [⟨#[97]⟩], []) := by simpa [y0] using hg
    subst h
    exact own_plain (Rd.keep hd5 hgW (by simp)) h1 h2
  rintro e w6 ⟨hg6, ⟨hno, -⟩ | ⟨-, ap, np, cp, an, nn, cn, pt, vs, rfl, rfl, hvs⟩⟩
  · exact absurd bindOk0 hno
  have b6 := gr_blk hg6 b5 (by simp)
  have hgr := gr_trans hg5 hg6
  clear b5 hg6 hi5 hvg5 hd5 hm6
  rw [exp0] at hvs
  simp only at hvs
  obtain ⟨as', cs, rfl, -, -, -⟩ := id hvs
  rw [show ([1] : List Int).length = 1 from rfl] at *
  have hws := blk_lt b6
  have p0 := blk_cell (l := [_, _, _, _]) b6 0 _ rfl
  have p1 := blk_cell (l := [_, _, _, _]) b6 1 _ rfl
  have p2 := blk_cell (l := [_, _, _, _]) b6 2 _ rfl
  have p3 := blk_cell (l := [_, _, _, _]) b6 3 _ rfl
  have pf := blk_free b6
  go_wp2_with fail
  have hbF := heap_old _ (.cells #[.slice ap np cp, .slice an nn cn, .pointer none, .slice as' 1 cs] 27) _ _ (blk_set (blk_set (blk_set (blk_set b6 0 (.slice ap np cp)) 1 (.slice an nn cn)) 2 (.pointer none)) 3 (.slice as' 1 cs))
  have hgS := gr_setR (p := ⟨w.heap.size, 3, none⟩) (gr_setR (p := ⟨w.heap.size, 2, none⟩) (gr_setR (p := ⟨w.heap.size, 1, none⟩) (gr_setR (p := ⟨w.heap.size, 0, none⟩) (gr_refl w6 (some w.heap.size)) rfl (.slice ap np cp)) rfl (.slice an nn cn)) rfl (.pointer none)) rfl (.slice as' 1 cs)
  have hgF := gr_alloc (gr_set (p := ⟨w.heap.size, 3, none⟩) (gr_set (p := ⟨w.heap.size, 2, none⟩) (gr_set (p := ⟨w.heap.size, 1, none⟩) (gr_set (p := ⟨w.heap.size, 0, none⟩) hgr (by simp) (.slice ap np cp)) (by simp) (.slice an nn cn)) (by simp) (.pointer none)) (by simp) (.slice as' 1 cs)) (.cells #[.slice ap np cp, .slice an nn cn, .pointer none, .slice as' 1 cs] 27)
  have hgS2 := gr_alloc hgS (.cells #[.slice ap np cp, .slice an nn cn, .pointer none, .slice as' 1 cs] 27)
  have hsz5 : w.heap.size + 1 ≤ w5.heap.size := hwl
  have hvF := Rd.lt2 (Rd.keep hvs hgS2 (fun k hk e => by cases e; omega))
  generalize (World.alloc (World.setCell (World.setCell (World.setCell (World.setCell _ _ _) _ _) _ _) _ _) _) = WF at *
  have d0 := blk_cell (l := [_, _, _, _]) hbF 0 _ rfl
  have d1 := blk_cell (l := [_, _, _, _]) hbF 1 _ rfl
  have d2 := blk_cell (l := [_, _, _, _]) hbF 2 _ rfl
  have d3 := blk_cell (l := [_, _, _, _]) hbF 3 _ rfl
  refine bodyPost_ret (v := .tuple #[.agg #[.slice ap np cp, .slice an nn cn, .pointer none, .slice as' 1 cs], .bool true]) ?_ rfl ⟨_, _, _, _, _, _, _, _, rfl, hvF, hgF⟩
  simp [results, Tryz.results13, go_sem, d0, d1, d2, d3]
end Go.Proofs.YtoilgmdfbibniaaGreatDoor
