/- plan.choose, Choose, Gain. -/
import Derived.Test.YtoilgmdfbibniaaGreatDoorPlan
set_option linter.unusedSimpArgs false
set_option linter.unusedVariables false
set_option maxRecDepth 20000
namespace Go.Proofs.YtoilgmdfbibniaaGreatDoor
open Go Go.RowKit

structure PL where
  base : Bool
  set : Int
  cost : Int
def PL.val (p : PL) : Value := .agg #[.bool p.base, .int .i64 p.set, .int .i64 p.cost]
def chooseF (need : Int) (l : List VI) (head facts : Int) : PL :=
  if (leastF head need l).2 = false ∨ max facts 0 < (leastF head need l).1.rows then ⟨true, 0, max facts 0⟩ else ⟨false, (leastF head need l).1.set, max (leastF head need l).1.rows 0⟩

theorem choose_any (F : Nat → Prop) (need : Int) (l : List VI) (v : Value) (head facts : Int) (w : World) (hF : ∀ k, F k → k < w.heap.size) (hv : VIsR F w v l) :
    Calls Tryz.prog 17 #[.int .i64 need, v, .int .i64 head, .int .i64 facts] w fun e w' => e = .returned (chooseF need l head facts).val ∧ w.grownBy w' none := by
  have hv' := hv
  obtain ⟨a, c, rfl, hc, hm, -⟩ := hv'
  have HS : Hid (chooseF need l head facts = if (leastF head need l).2 = false ∨ max facts 0 < (leastF head need l).1.rows then ⟨true, 0, max facts 0⟩ else ⟨false, (leastF head need l).1.set, max (leastF head need l).1.rows 0⟩) := rfl
  generalize chooseF need l head facts = res at *
  go_enter Tryz.func17, Tryz.ntmps17
  go_wp2_with fail
  have hg1 : w.grownBy (((w.alloc (.cells #[.int .i64 need] 3)).alloc (.cells #[.int .i64 head] 3)).alloc (.cells #[.bool false, .int .i64 0, .int .i64 0] 35)) none := gr_alloc (gr_alloc (gr_alloc (gr_refl _ _) _) _) _
  have b1 := heap_old _ (.cells #[.bool false, .int .i64 0, .int .i64 0] 35) _ _ (heap_new (w.alloc (.cells #[.int .i64 need] 3)) (.cells #[.int .i64 head] 3) (w.heap.size + 1) (by simp))
  have b0 := heap_old _ (.cells #[.bool false, .int .i64 0, .int .i64 0] 35) _ _ (heap_old _ (.cells #[.int .i64 head] 3) _ _ (heap_new w (.cells #[.int .i64 need] 3) _ rfl))
  have b2 := heap_new ((w.alloc (.cells #[.int .i64 need] 3)).alloc (.cells #[.int .i64 head] 3)) (.cells #[.bool false, .int .i64 0, .int .i64 0] 35) (w.heap.size + 1 + 1) (by simp)
  generalize (((w.alloc (.cells #[.int .i64 need] 3)).alloc (.cells #[.int .i64 head] 3)).alloc (.cells #[.bool false, .int .i64 0, .int .i64 0] 35)) = W at *
  refine (least_any F head need l (.slice a l.length c) (w.heap.size + 1) w.heap.size W (blk_cell (l := [_]) b1 0 _ rfl) (blk_cell (l := [_]) b0 0 _ rfl) (Rd.keep hv hg1 (by simp))).mono ?_
  generalize leastF head need l = r at *
  obtain ⟨⟨x1, x2, x3, x4, x5, x6⟩, found⟩ := r
  rintro e w2 ⟨rfl, hg2⟩
  have b3 := gr_blk hg2 b2 (by simp)
  have hg3 := gr_trans hg1 hg2
  have hsz := blk_lt b3
  clear hg1 hg2 b0 b1 b2 hv
  simp only at HS
  dsimp only [VI.cells]
  cases found
  · have HL : Hid (res = ⟨true, 0, max facts 0⟩) := by unfold Hid; rw [HS.out, if_pos (.inl rfl)]
    clear HS
    generalize max facts 0 = mf at *
    have p0 := blk_cell (l := [_, _, _]) b3 0 _ rfl
    have p1 := blk_cell (l := [_, _, _]) b3 1 _ rfl
    have p2 := blk_cell (l := [_, _, _]) b3 2 _ rfl
    have pf := blk_free b3
    go_wp2_with fail
    refine bodyPost_ret (v := .agg #[.bool true, .int .i64 0, .int .i64 mf]) ?_ rfl ⟨by rw [HL.out]; rfl, ?_⟩
    · have hbF := heap_old _ (.cells #[.int .i64 x1, .int .i64 x2, .int .i64 x3, .int .i64 x4, .int .i64 x5, .int .i64 x6] 32) _ _ (blk_set (blk_set (blk_set b3 0 (.bool true)) 1 (.int .i64 0)) 2 (.int .i64 mf))
      generalize (World.alloc _ _) = W at *
      have c0 := blk_cell (l := [_, _, _]) hbF 0 _ rfl
      have c1 := blk_cell (l := [_, _, _]) hbF 1 _ rfl
      have c2 := blk_cell (l := [_, _, _]) hbF 2 _ rfl
      simp [results, Tryz.results17, go_sem, c0, c1, c2]
    · exact gr_alloc (gr_set (gr_set (gr_set hg3 (by simp; omega) _) (by simp; omega) _) (by simp; omega) _) _
  · by_cases hf : max facts 0 < x4
    · have HL : Hid (res = ⟨true, 0, max facts 0⟩) := by unfold Hid; rw [HS.out, if_pos (.inr hf)]
      clear HS
      generalize max facts 0 = mf at *
      have p0 := blk_cell (l := [_, _, _]) b3 0 _ rfl
      have p1 := blk_cell (l := [_, _, _]) b3 1 _ rfl
      have p2 := blk_cell (l := [_, _, _]) b3 2 _ rfl
      have pf := blk_free b3
      go_wp2_with fail
      refine bodyPost_ret (v := .agg #[.bool true, .int .i64 0, .int .i64 mf]) ?_ rfl ⟨by rw [HL.out]; rfl, ?_⟩
      · have hbF := heap_old _ (.cells #[.int .i64 x1, .int .i64 x2, .int .i64 x3, .int .i64 x4, .int .i64 x5, .int .i64 x6] 32) _ _ (blk_set (blk_set (blk_set b3 0 (.bool true)) 1 (.int .i64 0)) 2 (.int .i64 mf))
        generalize (World.alloc _ _) = W at *
        have c0 := blk_cell (l := [_, _, _]) hbF 0 _ rfl
        have c1 := blk_cell (l := [_, _, _]) hbF 1 _ rfl
        have c2 := blk_cell (l := [_, _, _]) hbF 2 _ rfl
        simp [results, Tryz.results17, go_sem, c0, c1, c2]
      · exact gr_alloc (gr_set (gr_set (gr_set hg3 (by simp; omega) _) (by simp; omega) _) (by simp; omega) _) _
    · have HL : Hid (res = ⟨false, x1, max x4 0⟩) := by unfold Hid; rw [HS.out, if_neg (by simpa using hf)]
      clear HS
      generalize max facts 0 = mf at *
      have p0 := blk_cell (l := [_, _, _]) b3 0 _ rfl
      have p1 := blk_cell (l := [_, _, _]) b3 1 _ rfl
      have p2 := blk_cell (l := [_, _, _]) b3 2 _ rfl
      have pf := blk_free b3
      go_wp2_with fail
      refine bodyPost_ret (v := .agg #[.bool false, .int .i64 x1, .int .i64 (max x4 0)]) ?_ rfl ⟨by rw [HL.out]; rfl, ?_⟩
      · have hbF := heap_old _ (.cells #[.int .i64 x1, .int .i64 x2, .int .i64 x3, .int .i64 x4, .int .i64 x5, .int .i64 x6] 32) _ _ (blk_set (blk_set (blk_set b3 0 (.bool false)) 1 (.int .i64 x1)) 2 (.int .i64 (max x4 0)))
        generalize (World.alloc _ _) = W at *
        have c0 := blk_cell (l := [_, _, _]) hbF 0 _ rfl
        have c1 := blk_cell (l := [_, _, _]) hbF 1 _ rfl
        have c2 := blk_cell (l := [_, _, _]) hbF 2 _ rfl
        simp [results, Tryz.results17, go_sem, c0, c1, c2]
      · exact gr_alloc (gr_set (gr_set (gr_set hg3 (by simp; omega) _) (by simp; omega) _) (by simp; omega) _) _
end Go.Proofs.YtoilgmdfbibniaaGreatDoor
