/- package parse: read, where nothing is given up. -/
import Derived.Test.YtoilgmdfbibniaaGreatDoorQuery2
import Derived.Defers
import Derived.Recover
set_option linter.unusedSimpArgs false
set_option linter.unusedVariables false
set_option maxRecDepth 20000
namespace Go.Proofs.YtoilgmdfbibniaaGreatDoor
open Go Go.RowKit

theorem Rd.lt {F : Nat → Prop} {w : World} {v : Value} {n : Nat} {cs : List Value} (h : Rd F w v n cs) : Rd (· < w.heap.size) w v n cs := by
  obtain ⟨a, c, hv, hn, hm, h⟩ := h
  refine ⟨a, c, hv, hn, hm, ?_⟩
  rcases h with h | ⟨g, o, ha, hf, h⟩
  · exact .inl h
  · cases cs with
    | nil => exact .inl rfl
    | cons x cs => exact .inr ⟨g, o, ha, World.block_lt_of_cell? w _ (h 0 x rfl), h⟩

theorem catch_idle (p q : Addr) (w : World) :
    CallsD Tryz.prog 65 #[.pointer (some p), .pointer (some q)] .returning w fun e u' w' => e = .returned (.tuple #[]) ∧ u' = .returning ∧ w' = w := by
  refine callsD_of_wpS Tryz.func65 rfl fun c₀ cs hu => ?_
  apply wpS_seq
  apply wpS_region
  simp [wpOpsS, go_sem, recoverD, hu, Tryz.ntmps65, Exit.thenS]
  apply wpS_seq
  apply wpS_seq
  apply wpS_region
  simp [wpOpsS, go_sem, Exit.thenS]
  refine wpS_cond (t := true) (by simp [Act.eval, Array.replicate]) ?_
  simp only [if_true]
  refine wpS_of_wp (wp_ret ?_)
  cases c₀
  simp_all [bodyPostS, Exit.thenS, results, Tryz.results65]

/-- read's result where nothing is given up -/
def ReadPost {α : Type} (rb : Nat) (rep : World → Value → α → Prop) (w : World) (y : QueryS α) (e : Ending) (w' : World) : Prop :=
  ∃ u, e = .returned (.tuple #[u, .agg #[.int .i64 0, .int .i64 0]]) ∧ repQuery rb rep w' u y ∧ w.grownBy w' none

set_option maxHeartbeats 2000000 in
theorem read_ok {α : Type} {F : Nat → Prop} {v : Value} {ws : List W3} {w : World} {rep : World → Value → α → Prop} {orF : Nat → Option (α × Nat)} {y : QueryS α} (hk : Keeps (w.heap.size + 2) 45 rep) (hk2 : Keeps (w.heap.size + 2) 48 rep) (hshape : ∀ w u y, rep w u y → ∃ a, u = .pointer a) (he : EndOk ws)
    (HOr : (∃ (q : Nat) (x : W3), ws[q]? = some x ∧ isW x (⟨#[87, 72, 69, 82, 69]⟩ : ByteArray) = true) → OneOk 115 v (w.heap.size + 2) ws rep orF) (hv : Rd F w v ws.length (wCells ws)) (hl : ws.length ≤ 4097) (hpos : 0 < ws.length) (h9 : 9 ≤ w.heap.size) (hy : queryF ws orF 0 = some y) :
    Calls Tryz.prog 28 #[v] w (ReadPost (w.heap.size + 2) rep w y) := by
  have hmf : ∀ (fn : Fn) (first cap : Array Value) (w : World), (Instr.makeFunc fn first cap).run Tryz.prog w = .ok (.func fn first cap) w := fun _ _ _ _ => rfl
  have hv' := hv.lt
  obtain ⟨av, cv, rfl, hvc, hvm, -⟩ := id hv
  have hg1 := World.grownBy_alloc w (.cells #[.slice none 0 0, .string ⟨#[]⟩, .pointer none, .bool false, .slice none 0 0] 45) none
  have b1 := heap_new w (.cells #[.slice none 0 0, .string ⟨#[]⟩, .pointer none, .bool false, .slice none 0 0] 45) _ rfl
  have hg2 := gr_alloc hg1 (.cells #[.int .i64 0, .int .i64 0] 48)
  have b12 := heap_old _ (.cells #[.int .i64 0, .int .i64 0] 48) _ _ b1
  have b22 := heap_new (w.alloc (.cells #[.slice none 0 0, .string ⟨#[]⟩, .pointer none, .bool false, .slice none 0 0] 45)) (.cells #[.int .i64 0, .int .i64 0] 48) (w.heap.size + 1) (by simp)
  have hg3 := gr_alloc hg2 (.cells #[.slice av ws.length cv, .int .i64 0] 124)
  have b13 := heap_old _ (.cells #[.slice av ws.length cv, .int .i64 0] 124) _ _ b12
  have b23 := heap_old _ (.cells #[.slice av ws.length cv, .int .i64 0] 124) _ _ b22
  have b33 := heap_new ((w.alloc (.cells #[.slice none 0 0, .string ⟨#[]⟩, .pointer none, .bool false, .slice none 0 0] 45)).alloc (.cells #[.int .i64 0, .int .i64 0] 48)) (.cells #[.slice av ws.length cv, .int .i64 0] 124) (w.heap.size + 2) (by simp)
  have hat : AtR (.slice av ws.length cv) (w.heap.size + 2) ws 0 (((w.alloc (.cells #[.slice none 0 0, .string ⟨#[]⟩, .pointer none, .bool false, .slice none 0 0] 45)).alloc (.cells #[.int .i64 0, .int .i64 0] 48)).alloc (.cells #[.slice av ws.length cv, .int .i64 0] 124)) :=
    ⟨b33, (hv'.keep hg3 (by simp)).mono (fun k hk => by omega), hl⟩
  have HQ := query_any hk hshape he HOr hat hpos (by simp; omega)
  rw [hy] at HQ
  clear b1 b12 b22 b33 hg1 hg2 hat HOr hv hv'
  go_enter_defers Tryz.func28, Tryz.ntmps28
  go_wp2_with fail
  refine HQ.mono ?_
  clear HQ
  rintro e w4 (⟨y', u, hyy, rfl, hrep, hg4⟩ | ⟨h, -⟩)
  · cases hyy
    obtain ⟨vi, vw, vg, rfl, hi, hw, hgr⟩ := hrep
    have b14 := gr_blk hg4 b13 (by simp)
    have b24 := gr_blk hg4 b23 (by simp)
    have hg04 := gr_trans' hg3 hg4 (by simp)
    obtain ⟨ai, ci, rfl⟩ := sliceRep_slice hi
    obtain ⟨ag, cg, rfl⟩ := sliceRep_slice hgr
    obtain ⟨pw, rfl⟩ : ∃ pw, vw = .pointer pw := by
      cases hwh : y.wh with
      | none => rw [hwh] at hw; exact ⟨none, hw⟩
      | some c => rw [hwh] at hw; exact hshape _ _ _ hw
    clear b13 b23 hg4 hg3
    have p0 := blk_cell (l := [_, _, _, _, _]) b14 0 _ rfl
    have p1 := blk_cell (l := [_, _, _, _, _]) b14 1 _ rfl
    have p2 := blk_cell (l := [_, _, _, _, _]) b14 2 _ rfl
    have p3 := blk_cell (l := [_, _, _, _, _]) b14 3 _ rfl
    have p4 := blk_cell (l := [_, _, _, _, _]) b14 4 _ rfl
    have pf := blk_free b14
    have q0 := blk_cell (l := [_, _]) b24 0 _ rfl
    have q1 := blk_cell (l := [_, _]) b24 1 _ rfl
    have qf := blk_free b24
    go_wp2_with fail
    refine leaves_cons (f := 65) (args := #[.pointer (some ⟨w.heap.size, 0, none⟩), .pointer (some ⟨w.heap.size + 1, 0, none⟩)]) (by simp) (by simp [go_sem]) ?_
    refine (catch_idle _ _ _).mono ?_
    rintro e u' w'' ⟨rfl, rfl, rfl⟩
    have ht0 : tyOf w4 w.heap.size = some 45 := by unfold tyOf; rw [b14]
    have hgA := gr_setR (p := ⟨w.heap.size, 4, none⟩) (gr_setR (p := ⟨w.heap.size, 3, none⟩) (gr_setR (p := ⟨w.heap.size, 2, none⟩) (gr_setR (p := ⟨w.heap.size, 1, none⟩) (gr_setR (p := ⟨w.heap.size, 0, none⟩) (gr_refl w4 (some w.heap.size)) rfl (.slice ai y.items.length ci)) rfl (.string y.table)) rfl (.pointer pw)) rfl (.bool y.grouped)) rfl (.slice ag y.groups.length cg)
    have hgA2 := gr_set (p := ⟨w.heap.size, 4, none⟩) (gr_set (p := ⟨w.heap.size, 3, none⟩) (gr_set (p := ⟨w.heap.size, 2, none⟩) (gr_set (p := ⟨w.heap.size, 1, none⟩) (gr_set (p := ⟨w.heap.size, 0, none⟩) hg04 (Nat.le_refl _) (.slice ai y.items.length ci)) (Nat.le_refl _) (.string y.table)) (Nat.le_refl _) (.pointer pw)) (Nat.le_refl _) (.bool y.grouped)) (Nat.le_refl _) (.slice ag y.groups.length cg)
    have hbA := blk_set (blk_set (blk_set (blk_set (blk_set b14 0 (.slice ai y.items.length ci)) 1 (.string y.table)) 2 (.pointer pw)) 3 (.bool y.grouped)) 4 (.slice ag y.groups.length cg)
    have hbB := gr_blk hgA b24 (by simp)
    have hk1 : ∀ k, some w.heap.size = some k → k = w.heap.size + 2 ∨ tyOf w4 k = some 45 := fun k e => .inr (by cases e; exact ht0)
    generalize hW : (World.setCell (World.setCell (World.setCell (World.setCell (World.setCell w4 _ _) _ _) _ _) _ _) _ _) = W2 at *
    have hi2 := repItems_keeps (rb := w.heap.size + 2) (t := 45) (by decide) w4 W2 _ y.items (some w.heap.size) hi hgA hk1
    have hw2 := repWhere_keeps hk w4 W2 _ y.wh (some w.heap.size) hw hgA hk1
    have hg2 := repGroups_keeps (rb := w.heap.size + 2) (t := 45) (by decide) (by decide) (by decide) w4 W2 _ y.groups (some w.heap.size) hgr hgA hk1
    clear hi hw hgr hgA hk1 ht0 b14 b24 hg04 hW
    have ht1 : tyOf W2 (w.heap.size + 1) = some 48 := by unfold tyOf; rw [hbB]
    have hgB := gr_setR (p := ⟨w.heap.size + 1, 1, none⟩) (gr_setR (p := ⟨w.heap.size + 1, 0, none⟩) (gr_refl W2 (some (w.heap.size + 1))) rfl (.int .i64 0)) rfl (.int .i64 0)
    have hgB2 := gr_set (p := ⟨w.heap.size + 1, 1, none⟩) (gr_set (p := ⟨w.heap.size + 1, 0, none⟩) hgA2 (by simp) (.int .i64 0)) (by simp) (.int .i64 0)
    have hbC := blk_set (blk_set hbB 0 (.int .i64 0)) 1 (.int .i64 0)
    have hbD := gr_blk hgB hbA (by simp)
    have hk1 : ∀ k, some (w.heap.size + 1) = some k → k = w.heap.size + 2 ∨ tyOf W2 k = some 48 := fun k e => .inr (by cases e; exact ht1)
    generalize hW : (World.setCell (World.setCell W2 _ _) _ _) = W3 at *
    have hi3 := repItems_keeps (rb := w.heap.size + 2) (t := 48) (by decide) W2 W3 _ y.items (some (w.heap.size + 1)) hi2 hgB hk1
    have hw3 := repWhere_keeps hk2 W2 W3 _ y.wh (some (w.heap.size + 1)) hw2 hgB hk1
    have hg3 := repGroups_keeps (rb := w.heap.size + 2) (t := 48) (by decide) (by decide) (by decide) W2 W3 _ y.groups (some (w.heap.size + 1)) hg2 hgB hk1
    have c0 := blk_cell (l := [_, _, _, _, _]) hbD 0 _ rfl
    have c1 := blk_cell (l := [_, _, _, _, _]) hbD 1 _ rfl
    have c2 := blk_cell (l := [_, _, _, _, _]) hbD 2 _ rfl
    have c3 := blk_cell (l := [_, _, _, _, _]) hbD 3 _ rfl
    have c4 := blk_cell (l := [_, _, _, _, _]) hbD 4 _ rfl
    have d0 := blk_cell (l := [_, _]) hbC 0 _ rfl
    have d1 := blk_cell (l := [_, _]) hbC 1 _ rfl
    have hfin : ReadPost (w.heap.size + 2) rep w y (.returned (.tuple #[.agg #[.slice ai y.items.length ci, .string y.table, .pointer pw, .bool y.grouped, .slice ag y.groups.length cg], .agg #[.int .i64 0, .int .i64 0]])) W3 :=
      ⟨_, rfl, ⟨_, _, _, rfl, hi3, hw3, hg3⟩, hgB2⟩
    clear hW hi3 hw3 hg3 hi2 hw2 hg2 hbD hbC hgB hgB2 hbA hbB
    simp [Leaves, settle, results, Tryz.results28, go_sem, c0, c1, c2, c3, c4, d0, d1]
    exact hfin
  · cases h
end Go.Proofs.YtoilgmdfbibniaaGreatDoor
