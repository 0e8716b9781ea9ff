/- caissonlaw19.awake: true. -/
import Derived.Test.YtoilgmdfbibniaaGreatDoorOffer
import Derived.Test.YtoilgmdfbibniaaGreatDoorBound
set_option linter.unusedSimpArgs false
set_option linter.unusedVariables false
set_option maxRecDepth 20000
namespace Go.Proofs.YtoilgmdfbibniaaGreatDoor
open Go Go.RowKit

theorem run_cost (b : Bool) (x y : Int) (W : World) : Sem.run Tryz.prog (Instr.field 35 (.agg #[.bool b, .int .i64 x, .int .i64 y]) 2) W = .ok (.int .i64 y) W := by
  unfold Instr.field
  simp [run_underlying Tryz.underlying35, part, asAgg, go_sem]
theorem gr_set3 {w W : World} {n : Nat} (h : w.grownBy W none) (hn : w.heap.size ≤ n) (a b c : Value) : w.grownBy (((W.setCell ⟨n, 0, none⟩ a).setCell ⟨n, 1, none⟩ b).setCell ⟨n, 2, none⟩ c) none :=
  gr_set (p := ⟨n, 2, none⟩) (gr_set (p := ⟨n, 1, none⟩) (gr_set (p := ⟨n, 0, none⟩) h hn a) hn b) hn c
theorem Gain_0 {F : Nat → Prop} {v : Value} {w : World} (hF : ∀ k, F k → k < w.heap.size) (hv : VIsR F w v views0) :
    Calls Tryz.prog 16 #[.int .i64 1, .int .i64 1, .int .i64 6, v, .int .i64 9, .int .i64 100] w fun e w' => e = .returned (.int .i64 14) ∧ w.grownBy w' none := by
  have HC := fun W (h : W = w) => choose_any F 1 views0 v 9 100 W (fun k hk => by rw [h]; exact hF k hk) (by rw [h]; exact hv)
  rw [show chooseF 1 views0 9 100 = ⟨false, 3, 20⟩ by kernel_rfl] at HC
  obtain ⟨a, c, rfl, -, -, -⟩ := id hv
  have HX := run_cost false 3 20
  have HV : Hid (coversB 1 1 = true) := Lib.hid (by kernel_rfl)
  clear hv
  go_enter Tryz.func16, Tryz.ntmps16
  go_wp2_with fail
  refine (Covers_any 1 1 w).mono ?_
  rintro e w1 ⟨rfl, hw⟩
  rw [HV.out]
  go_wp2_with fail
  refine (HC _ hw.symm).mono ?_
  rintro e w2 ⟨rfl, hg⟩
  dsimp only [PL.val]
  go_wp2_with fail
  go_ret
  exact ⟨ret_int (by decide), by rw [hw]; exact hg⟩

theorem Choose_9 {ap an as' : Option Addr} {np cp nn cn cs : Nat} {F : Nat → Prop} {w2 W : World} {v : Value} (hs : IntsR (· < w2.heap.size) w2 (.slice as' 1 cs) [1]) (h2 : w2.grownBy W none) (hv : VIsR F W v views0) :
    Calls Tryz.prog 6 #[.agg #[.slice ap np cp, .slice an nn cn, .pointer none, .slice as' 1 cs], v, .int .i64 9, .int .i64 100] W fun e w' => e = .returned (.agg #[.bool false, .int .i64 3, .int .i64 20]) ∧ W.grownBy w' none := by
  have h := Choose_any (· < W.heap.size) .nil [1] views0 (.slice ap np cp) (.slice an nn cn) (.pointer none) (.slice as' 1 cs) v 9 100 W rfl rfl (fun k h => h) rfl (Rd.lt2 (Rd.keep hs h2 (by simp))) (Rd.lt2 hv)
  rw [show ChooseF .nil [1] views0 9 100 = ⟨false, 3, 20⟩ by kernel_rfl] at h
  exact h
theorem Choose_10 {ap an as' : Option Addr} {np cp nn cn cs : Nat} {F : Nat → Prop} {w2 W : World} {v : Value} (hs : IntsR (· < w2.heap.size) w2 (.slice as' 1 cs) [1]) (h2 : w2.grownBy W none) (hv : VIsR F W v views0) :
    Calls Tryz.prog 6 #[.agg #[.slice ap np cp, .slice an nn cn, .pointer none, .slice as' 1 cs], v, .int .i64 10, .int .i64 100] W fun e w' => e = .returned (.agg #[.bool true, .int .i64 0, .int .i64 100]) ∧ W.grownBy w' none := by
  have h := Choose_any (· < W.heap.size) .nil [1] views0 (.slice ap np cp) (.slice an nn cn) (.pointer none) (.slice as' 1 cs) v 10 100 W rfl rfl (fun k h => h) rfl (Rd.lt2 (Rd.keep hs h2 (by simp))) (Rd.lt2 hv)
  rw [show ChooseF .nil [1] views0 10 100 = ⟨true, 0, 100⟩ by kernel_rfl] at h
  exact h
def SB (b : Nat) (v0 v1 v2 v3 : Value) (W : World) : Prop := W.cell? ⟨b, 0, none⟩ = some v0 ∧ W.cell? ⟨b, 1, none⟩ = some v1 ∧ W.cell? ⟨b, 2, none⟩ = some v2 ∧ W.cell? ⟨b, 3, none⟩ = some v3
theorem SB.keep {b : Nat} {v0 v1 v2 v3 : Value} {w W : World} (h : SB b v0 v1 v2 v3 w) (hg : w.grownBy W none) : SB b v0 v1 v2 v3 W := ⟨gr_cell hg h.1 (by simp), gr_cell hg h.2.1 (by simp), gr_cell hg h.2.2.1 (by simp), gr_cell hg h.2.2.2 (by simp)⟩

set_option maxHeartbeats 8000000 in
theorem awake_any {w : World} (hG : Glob w) : Calls Tryz.prog 5 #[] w fun e w' => e = .returned (.bool true) ∧ w.grownBy w' none := by
  have HB := bound_0 hG
  unfold s0 at HB
  go_enter Tryz.func5, Tryz.ntmps5
  go_wp2_with fail
  refine HB.mono ?_
  clear HB
  rintro e w1 ⟨ap, np, cp, an, nn, cn, as', cs, rfl, hs, hg1⟩
  have hga := gr_alloc hg1 (.cells #[.slice ap np cp, .slice an nn cn, .pointer none, .slice as' 1 cs] 27)
  have b0 := heap_new w1 (.cells #[.slice ap np cp, .slice an nn cn, .pointer none, .slice as' 1 cs] 27) _ rfl
  have hs2 := Rd.lt2 (Rd.keep hs (World.grownBy_alloc w1 (.cells #[.slice ap np cp, .slice an nn cn, .pointer none, .slice as' 1 cs] 27) none) (by simp))
  clear hs
  go_wp2_with fail
  generalize (w1.alloc _) = w2 at *
  have hS0 : SB w1.heap.size (.slice ap np cp) (.slice an nn cn) (.pointer none) (.slice as' 1 cs) w2 := ⟨blk_cell (l := [_, _, _, _]) b0 0 _ rfl, blk_cell (l := [_, _, _, _]) b0 1 _ rfl, blk_cell (l := [_, _, _, _]) b0 2 _ rfl, blk_cell (l := [_, _, _, _]) b0 3 _ rfl⟩
  have hws := blk_lt b0
  have hdx : w2.grownBy (w2.drew) none := gr_drew (gr_refl w2 none)
  go_region_held3 (fun W => W.cell? ⟨w1.heap.size, 0, none⟩ = some (.slice ap np cp) ∧ W.cell? ⟨w1.heap.size, 1, none⟩ = some (.slice an nn cn) ∧ W.cell? ⟨w1.heap.size, 2, none⟩ = some (.pointer none) ∧ W.cell? ⟨w1.heap.size, 3, none⟩ = some (.slice as' 1 cs)) (first | exact SB.keep hS0 h24x | exact SB.keep hS0 (gr_alloc h24x _) | exact SB.keep hS0 (gr_set3 h24x (by first | exact Nat.le_refl _ | exact h23x.size) _ _ _) | exact SB.keep hS0 h23x | exact SB.keep hS0 (gr_alloc h23x _) | exact SB.keep hS0 hdx | exact SB.keep hS0 (gr_alloc hdx _)) (first | (go_at_call 14; refine (views_0 _).mono ?_; rintro e w3x ⟨avx, cvx, rfl, hvx, hg3x⟩; have h23x : w2.grownBy w3x none := (by first | exact gr_trans hdx hg3x | exact gr_trans (gr_alloc hdx _) hg3x); try (have hnax := gr_blk hg3x (heap_new (w2).drew (.cells #[.bool false, .int .i64 0, .int .i64 0] 35) (w2).heap.size rfl) (by simp))) | (go_at_call 6; (first | refine (Choose_9 hs2 h23x hvx).mono ?_ | refine (Choose_9 hs2 (gr_alloc h23x _) (Rd.keep hvx (World.grownBy_alloc _ _ none) (by simp))).mono ?_); rintro e w4x ⟨rfl, hg4x⟩; have h24x : w2.grownBy w4x none := (by first | exact gr_trans h23x hg4x | exact gr_trans (gr_alloc h23x _) hg4x); try (first | have hnbx := gr_blk hg4x hnax (by simp) | have hnbx := gr_blk hg4x (heap_new w3x (.cells #[.bool false, .int .i64 0, .int .i64 0] 35) _ rfl) (by simp)); try (have n0 := blk_cell (l := [_, _, _]) hnbx 0 _ rfl; have n1 := blk_cell (l := [_, _, _]) hnbx 1 _ rfl; have n2 := blk_cell (l := [_, _, _]) hnbx 2 _ rfl; have nf := blk_free hnbx)))
  ·
    have hnx := heap_new w4x (.cells #[.bool false, .int .i64 3, .int .i64 20] 35) _ rfl
    have hgx := gr_alloc h24x (.cells #[.bool false, .int .i64 3, .int .i64 20] 35)
    generalize (w4x.alloc _) = Wx at *
    generalize w4x.heap.size = nx at *
    clear hg4x hvx h23x h24x hg3x
    have hn1 : Wx.heap[nx]? = some (.cells #[.bool false, .int .i64 3, .int .i64 20] 35 (0, 0)) := hnx
    have hs3 := Rd.lt2 (Rd.keep hs2 hgx (by simp))
    have hS1 := hS0.keep hgx
    have hgw := gr_trans hga hgx
    clear hnx hs2 hS0 hga hgx b0 hws hdx
    try clear n0 n1 n2 nf
    go_wp2_with fail
    have hdy : Wx.grownBy (Wx.drew) none := gr_drew (gr_refl Wx none)
    go_region_held3 (fun W => W.cell? ⟨w1.heap.size, 0, none⟩ = some (.slice ap np cp) ∧ W.cell? ⟨w1.heap.size, 1, none⟩ = some (.slice an nn cn) ∧ W.cell? ⟨w1.heap.size, 2, none⟩ = some (.pointer none) ∧ W.cell? ⟨w1.heap.size, 3, none⟩ = some (.slice as' 1 cs)) (first | exact SB.keep hS1 h24y | exact SB.keep hS1 (gr_alloc h24y _) | exact SB.keep hS1 (gr_set3 h24y (by first | exact Nat.le_refl _ | exact h23y.size) _ _ _) | exact SB.keep hS1 h23y | exact SB.keep hS1 (gr_alloc h23y _) | exact SB.keep hS1 hdy | exact SB.keep hS1 (gr_alloc hdy _)) (first | (go_at_call 14; refine (views_0 _).mono ?_; rintro e w3y ⟨avy, cvy, rfl, hvy, hg3y⟩; have h23y : Wx.grownBy w3y none := (by first | exact gr_trans hdy hg3y | exact gr_trans (gr_alloc hdy _) hg3y); try (have hnay := gr_blk hg3y (heap_new (Wx).drew (.cells #[.bool false, .int .i64 0, .int .i64 0] 35) (Wx).heap.size rfl) (by simp))) | (go_at_call 6; (first | refine (Choose_10 hs3 h23y hvy).mono ?_ | refine (Choose_10 hs3 (gr_alloc h23y _) (Rd.keep hvy (World.grownBy_alloc _ _ none) (by simp))).mono ?_); rintro e w4y ⟨rfl, hg4y⟩; have h24y : Wx.grownBy w4y none := (by first | exact gr_trans h23y hg4y | exact gr_trans (gr_alloc h23y _) hg4y); try (first | have hnby := gr_blk hg4y hnay (by simp) | have hnby := gr_blk hg4y (heap_new w3y (.cells #[.bool false, .int .i64 0, .int .i64 0] 35) _ rfl) (by simp)); try (have n0 := blk_cell (l := [_, _, _]) hnby 0 _ rfl; have n1 := blk_cell (l := [_, _, _]) hnby 1 _ rfl; have n2 := blk_cell (l := [_, _, _]) hnby 2 _ rfl; have nf := blk_free hnby)))
    ·
      have hny := heap_new w4y (.cells #[.bool true, .int .i64 0, .int .i64 100] 35) _ rfl
      have hgy := gr_alloc h24y (.cells #[.bool true, .int .i64 0, .int .i64 100] 35)
      generalize (w4y.alloc _) = Wy at *
      generalize w4y.heap.size = ny at *
      clear hg4y hvy h23y h24y hg3y
      have hn2 := gr_blk hgy hn1 (by simp)
      have hm2 : Wy.heap[ny]? = some (.cells #[.bool true, .int .i64 0, .int .i64 100] 35 (0, 0)) := hny
      have hgz := gr_trans hgw hgy
      have x0 := blk_cell (l := [_, _, _]) hn2 0 _ rfl
      have x1 := blk_cell (l := [_, _, _]) hn2 1 _ rfl
      have x2 := blk_cell (l := [_, _, _]) hn2 2 _ rfl
      have z0 := blk_cell (l := [_, _, _]) hm2 0 _ rfl
      have z1 := blk_cell (l := [_, _, _]) hm2 1 _ rfl
      have z2 := blk_cell (l := [_, _, _]) hm2 2 _ rfl
      have hl1 := blk_lt hn2
      have hl2 := blk_lt hm2
      clear hny hn1 hs3 hS1 hgw hgy hdy
      try clear n0 n1 n2 nf
      go_wp2_with fail
      refine (Text_0 _).mono ?_
      rintro e wa ⟨rfl, hg5⟩
      have hn5 := gr_blk hg5 hm2 (by simp)
      have hgz5 := gr_trans hgz hg5
      have z0 := blk_cell (l := [_, _, _]) hn5 0 _ rfl
      have z1 := blk_cell (l := [_, _, _]) hn5 1 _ rfl
      have z2 := blk_cell (l := [_, _, _]) hn5 2 _ rfl
      have hl2 := blk_lt hn5
      go_wp2_with fail
      refine (Text_1 (hG.keep hgz5 (by simp))).mono ?_
      rintro e wb ⟨rfl, hg6⟩
      go_wp2_with fail
      refine (views_0 _).mono ?_
      rintro e wc ⟨av, cv, rfl, hv, hg7⟩
      go_wp2_with fail
      refine (Gain_0 (F := (· < wc.heap.size)) (fun k h => h) (Rd.lt2 hv)).mono ?_
      rintro e wd ⟨rfl, hg8⟩
      go_wp2_with fail
      go_ret
      exact ⟨rfl, gr_trans hgz5 (gr_trans hg6 (gr_trans hg7 hg8))⟩
    ·
      have hny := blk_set (blk_set (blk_set hnby 0 (.bool true)) 1 (.int .i64 0)) 2 (.int .i64 100)
      have hgy := gr_set3 h24y (h23y.size) (.bool true) (.int .i64 0) (.int .i64 100)
      generalize (World.setCell (World.setCell (World.setCell _ _ _) _ _) _ _) = Wy at *
      generalize w3y.heap.size = ny at *
      clear hg4y hvy h23y h24y hg3y hnby
      have hn2 := gr_blk hgy hn1 (by simp)
      have hm2 : Wy.heap[ny]? = some (.cells #[.bool true, .int .i64 0, .int .i64 100] 35 (0, 0)) := hny
      have hgz := gr_trans hgw hgy
      have x0 := blk_cell (l := [_, _, _]) hn2 0 _ rfl
      have x1 := blk_cell (l := [_, _, _]) hn2 1 _ rfl
      have x2 := blk_cell (l := [_, _, _]) hn2 2 _ rfl
      have z0 := blk_cell (l := [_, _, _]) hm2 0 _ rfl
      have z1 := blk_cell (l := [_, _, _]) hm2 1 _ rfl
      have z2 := blk_cell (l := [_, _, _]) hm2 2 _ rfl
      have hl1 := blk_lt hn2
      have hl2 := blk_lt hm2
      clear hny hn1 hs3 hS1 hgw hgy hdy
      try clear n0 n1 n2 nf
      go_wp2_with fail
      refine (Text_0 _).mono ?_
      rintro e wa ⟨rfl, hg5⟩
      have hn5 := gr_blk hg5 hm2 (by simp)
      have hgz5 := gr_trans hgz hg5
      have z0 := blk_cell (l := [_, _, _]) hn5 0 _ rfl
      have z1 := blk_cell (l := [_, _, _]) hn5 1 _ rfl
      have z2 := blk_cell (l := [_, _, _]) hn5 2 _ rfl
      have hl2 := blk_lt hn5
      go_wp2_with fail
      refine (Text_1 (hG.keep hgz5 (by simp))).mono ?_
      rintro e wb ⟨rfl, hg6⟩
      go_wp2_with fail
      refine (views_0 _).mono ?_
      rintro e wc ⟨av, cv, rfl, hv, hg7⟩
      go_wp2_with fail
      refine (Gain_0 (F := (· < wc.heap.size)) (fun k h => h) (Rd.lt2 hv)).mono ?_
      rintro e wd ⟨rfl, hg8⟩
      go_wp2_with fail
      go_ret
      exact ⟨rfl, gr_trans hgz5 (gr_trans hg6 (gr_trans hg7 hg8))⟩
    ·
      have hny := blk_set (blk_set (blk_set hnby 0 (.bool true)) 1 (.int .i64 0)) 2 (.int .i64 100)
      have hgy := gr_set3 h24y (Nat.le_refl _) (.bool true) (.int .i64 0) (.int .i64 100)
      generalize (World.setCell (World.setCell (World.setCell _ _ _) _ _) _ _) = Wy at *
      generalize Wx.heap.size = ny at *
      clear hg4y hvy h23y h24y hg3y hnby
      have hn2 := gr_blk hgy hn1 (by simp)
      have hm2 : Wy.heap[ny]? = some (.cells #[.bool true, .int .i64 0, .int .i64 100] 35 (0, 0)) := hny
      have hgz := gr_trans hgw hgy
      have x0 := blk_cell (l := [_, _, _]) hn2 0 _ rfl
      have x1 := blk_cell (l := [_, _, _]) hn2 1 _ rfl
      have x2 := blk_cell (l := [_, _, _]) hn2 2 _ rfl
      have z0 := blk_cell (l := [_, _, _]) hm2 0 _ rfl
      have z1 := blk_cell (l := [_, _, _]) hm2 1 _ rfl
      have z2 := blk_cell (l := [_, _, _]) hm2 2 _ rfl
      have hl1 := blk_lt hn2
      have hl2 := blk_lt hm2
      clear hny hn1 hs3 hS1 hgw hgy hdy
      try clear n0 n1 n2 nf
      go_wp2_with fail
      refine (Text_0 _).mono ?_
      rintro e wa ⟨rfl, hg5⟩
      have hn5 := gr_blk hg5 hm2 (by simp)
      have hgz5 := gr_trans hgz hg5
      have z0 := blk_cell (l := [_, _, _]) hn5 0 _ rfl
      have z1 := blk_cell (l := [_, _, _]) hn5 1 _ rfl
      have z2 := blk_cell (l := [_, _, _]) hn5 2 _ rfl
      have hl2 := blk_lt hn5
      go_wp2_with fail
      refine (Text_1 (hG.keep hgz5 (by simp))).mono ?_
      rintro e wb ⟨rfl, hg6⟩
      go_wp2_with fail
      refine (views_0 _).mono ?_
      rintro e wc ⟨av, cv, rfl, hv, hg7⟩
      go_wp2_with fail
      refine (Gain_0 (F := (· < wc.heap.size)) (fun k h => h) (Rd.lt2 hv)).mono ?_
      rintro e wd ⟨rfl, hg8⟩
      go_wp2_with fail
      go_ret
      exact ⟨rfl, gr_trans hgz5 (gr_trans hg6 (gr_trans hg7 hg8))⟩
  ·
    have hnx := blk_set (blk_set (blk_set hnbx 0 (.bool false)) 1 (.int .i64 3)) 2 (.int .i64 20)
    have hgx := gr_set3 h24x (h23x.size) (.bool false) (.int .i64 3) (.int .i64 20)
    generalize (World.setCell (World.setCell (World.setCell _ _ _) _ _) _ _) = Wx at *
    generalize w3x.heap.size = nx at *
    clear hg4x hvx h23x h24x hg3x hnbx
    have hn1 : Wx.heap[nx]? = some (.cells #[.bool false, .int .i64 3, .int .i64 20] 35 (0, 0)) := hnx
    have hs3 := Rd.lt2 (Rd.keep hs2 hgx (by simp))
    have hS1 := hS0.keep hgx
    have hgw := gr_trans hga hgx
    clear hnx hs2 hS0 hga hgx b0 hws hdx
    try clear n0 n1 n2 nf
    go_wp2_with fail
    have hdy : Wx.grownBy (Wx.drew) none := gr_drew (gr_refl Wx none)
    go_region_held3 (fun W => W.cell? ⟨w1.heap.size, 0, none⟩ = some (.slice ap np cp) ∧ W.cell? ⟨w1.heap.size, 1, none⟩ = some (.slice an nn cn) ∧ W.cell? ⟨w1.heap.size, 2, none⟩ = some (.pointer none) ∧ W.cell? ⟨w1.heap.size, 3, none⟩ = some (.slice as' 1 cs)) (first | exact SB.keep hS1 h24y | exact SB.keep hS1 (gr_alloc h24y _) | exact SB.keep hS1 (gr_set3 h24y (by first | exact Nat.le_refl _ | exact h23y.size) _ _ _) | exact SB.keep hS1 h23y | exact SB.keep hS1 (gr_alloc h23y _) | exact SB.keep hS1 hdy | exact SB.keep hS1 (gr_alloc hdy _)) (first | (go_at_call 14; refine (views_0 _).mono ?_; rintro e w3y ⟨avy, cvy, rfl, hvy, hg3y⟩; have h23y : Wx.grownBy w3y none := (by first | exact gr_trans hdy hg3y | exact gr_trans (gr_alloc hdy _) hg3y); try (have hnay := gr_blk hg3y (heap_new (Wx).drew (.cells #[.bool false, .int .i64 0, .int .i64 0] 35) (Wx).heap.size rfl) (by simp))) | (go_at_call 6; (first | refine (Choose_10 hs3 h23y hvy).mono ?_ | refine (Choose_10 hs3 (gr_alloc h23y _) (Rd.keep hvy (World.grownBy_alloc _ _ none) (by simp))).mono ?_); rintro e w4y ⟨rfl, hg4y⟩; have h24y : Wx.grownBy w4y none := (by first | exact gr_trans h23y hg4y | exact gr_trans (gr_alloc h23y _) hg4y); try (first | have hnby := gr_blk hg4y hnay (by simp) | have hnby := gr_blk hg4y (heap_new w3y (.cells #[.bool false, .int .i64 0, .int .i64 0] 35) _ rfl) (by simp)); try (have n0 := blk_cell (l := [_, _, _]) hnby 0 _ rfl; have n1 := blk_cell (l := [_, _, _]) hnby 1 _ rfl; have n2 := blk_cell (l := [_, _, _]) hnby 2 _ rfl; have nf := blk_free hnby)))
    ·
      have hny := heap_new w4y (.cells #[.bool true, .int .i64 0, .int .i64 100] 35) _ rfl
      have hgy := gr_alloc h24y (.cells #[.bool true, .int .i64 0, .int .i64 100] 35)
      generalize (w4y.alloc _) = Wy at *
      generalize w4y.heap.size = ny at *
      clear hg4y hvy h23y h24y hg3y
      have hn2 := gr_blk hgy hn1 (by simp)
      have hm2 : Wy.heap[ny]? = some (.cells #[.bool true, .int .i64 0, .int .i64 100] 35 (0, 0)) := hny
      have hgz := gr_trans hgw hgy
      have x0 := blk_cell (l := [_, _, _]) hn2 0 _ rfl
      have x1 := blk_cell (l := [_, _, _]) hn2 1 _ rfl
      have x2 := blk_cell (l := [_, _, _]) hn2 2 _ rfl
      have z0 := blk_cell (l := [_, _, _]) hm2 0 _ rfl
      have z1 := blk_cell (l := [_, _, _]) hm2 1 _ rfl
      have z2 := blk_cell (l := [_, _, _]) hm2 2 _ rfl
      have hl1 := blk_lt hn2
      have hl2 := blk_lt hm2
      clear hny hn1 hs3 hS1 hgw hgy hdy
      try clear n0 n1 n2 nf
      go_wp2_with fail
      refine (Text_0 _).mono ?_
      rintro e wa ⟨rfl, hg5⟩
      have hn5 := gr_blk hg5 hm2 (by simp)
      have hgz5 := gr_trans hgz hg5
      have z0 := blk_cell (l := [_, _, _]) hn5 0 _ rfl
      have z1 := blk_cell (l := [_, _, _]) hn5 1 _ rfl
      have z2 := blk_cell (l := [_, _, _]) hn5 2 _ rfl
      have hl2 := blk_lt hn5
      go_wp2_with fail
      refine (Text_1 (hG.keep hgz5 (by simp))).mono ?_
      rintro e wb ⟨rfl, hg6⟩
      go_wp2_with fail
      refine (views_0 _).mono ?_
      rintro e wc ⟨av, cv, rfl, hv, hg7⟩
      go_wp2_with fail
      refine (Gain_0 (F := (· < wc.heap.size)) (fun k h => h) (Rd.lt2 hv)).mono ?_
      rintro e wd ⟨rfl, hg8⟩
      go_wp2_with fail
      go_ret
      exact ⟨rfl, gr_trans hgz5 (gr_trans hg6 (gr_trans hg7 hg8))⟩
    ·
      have hny := blk_set (blk_set (blk_set hnby 0 (.bool true)) 1 (.int .i64 0)) 2 (.int .i64 100)
      have hgy := gr_set3 h24y (h23y.size) (.bool true) (.int .i64 0) (.int .i64 100)
      generalize (World.setCell (World.setCell (World.setCell _ _ _) _ _) _ _) = Wy at *
      generalize w3y.heap.size = ny at *
      clear hg4y hvy h23y h24y hg3y hnby
      have hn2 := gr_blk hgy hn1 (by simp)
      have hm2 : Wy.heap[ny]? = some (.cells #[.bool true, .int .i64 0, .int .i64 100] 35 (0, 0)) := hny
      have hgz := gr_trans hgw hgy
      have x0 := blk_cell (l := [_, _, _]) hn2 0 _ rfl
      have x1 := blk_cell (l := [_, _, _]) hn2 1 _ rfl
      have x2 := blk_cell (l := [_, _, _]) hn2 2 _ rfl
      have z0 := blk_cell (l := [_, _, _]) hm2 0 _ rfl
      have z1 := blk_cell (l := [_, _, _]) hm2 1 _ rfl
      have z2 := blk_cell (l := [_, _, _]) hm2 2 _ rfl
      have hl1 := blk_lt hn2
      have hl2 := blk_lt hm2
      clear hny hn1 hs3 hS1 hgw hgy hdy
      try clear n0 n1 n2 nf
      go_wp2_with fail
      refine (Text_0 _).mono ?_
      rintro e wa ⟨rfl, hg5⟩
      have hn5 := gr_blk hg5 hm2 (by simp)
      have hgz5 := gr_trans hgz hg5
      have z0 := blk_cell (l := [_, _, _]) hn5 0 _ rfl
      have z1 := blk_cell (l := [_, _, _]) hn5 1 _ rfl
      have z2 := blk_cell (l := [_, _, _]) hn5 2 _ rfl
      have hl2 := blk_lt hn5
      go_wp2_with fail
      refine (Text_1 (hG.keep hgz5 (by simp))).mono ?_
      rintro e wb ⟨rfl, hg6⟩
      go_wp2_with fail
      refine (views_0 _).mono ?_
      rintro e wc ⟨av, cv, rfl, hv, hg7⟩
      go_wp2_with fail
      refine (Gain_0 (F := (· < wc.heap.size)) (fun k h => h) (Rd.lt2 hv)).mono ?_
      rintro e wd ⟨rfl, hg8⟩
      go_wp2_with fail
      go_ret
      exact ⟨rfl, gr_trans hgz5 (gr_trans hg6 (gr_trans hg7 hg8))⟩
    ·
      have hny := blk_set (blk_set (blk_set hnby 0 (.bool true)) 1 (.int .i64 0)) 2 (.int .i64 100)
      have hgy := gr_set3 h24y (Nat.le_refl _) (.bool true) (.int .i64 0) (.int .i64 100)
      generalize (World.setCell (World.setCell (World.setCell _ _ _) _ _) _ _) = Wy at *
      generalize Wx.heap.size = ny at *
      clear hg4y hvy h23y h24y hg3y hnby
      have hn2 := gr_blk hgy hn1 (by simp)
      have hm2 : Wy.heap[ny]? = some (.cells #[.bool true, .int .i64 0, .int .i64 100] 35 (0, 0)) := hny
      have hgz := gr_trans hgw hgy
      have x0 := blk_cell (l := [_, _, _]) hn2 0 _ rfl
      have x1 := blk_cell (l := [_, _, _]) hn2 1 _ rfl
      have x2 := blk_cell (l := [_, _, _]) hn2 2 _ rfl
      have z0 := blk_cell (l := [_, _, _]) hm2 0 _ rfl
      have z1 := blk_cell (l := [_, _, _]) hm2 1 _ rfl
      have z2 := blk_cell (l := [_, _, _]) hm2 2 _ rfl
      have hl1 := blk_lt hn2
      have hl2 := blk_lt hm2
      clear hny hn1 hs3 hS1 hgw hgy hdy
      try clear n0 n1 n2 nf
      go_wp2_with fail
      refine (Text_0 _).mono ?_
      rintro e wa ⟨rfl, hg5⟩
      have hn5 := gr_blk hg5 hm2 (by simp)
      have hgz5 := gr_trans hgz hg5
      have z0 := blk_cell (l := [_, _, _]) hn5 0 _ rfl
      have z1 := blk_cell (l := [_, _, _]) hn5 1 _ rfl
      have z2 := blk_cell (l := [_, _, _]) hn5 2 _ rfl
      have hl2 := blk_lt hn5
      go_wp2_with fail
      refine (Text_1 (hG.keep hgz5 (by simp))).mono ?_
      rintro e wb ⟨rfl, hg6⟩
      go_wp2_with fail
      refine (views_0 _).mono ?_
      rintro e wc ⟨av, cv, rfl, hv, hg7⟩
      go_wp2_with fail
      refine (Gain_0 (F := (· < wc.heap.size)) (fun k h => h) (Rd.lt2 hv)).mono ?_
      rintro e wd ⟨rfl, hg8⟩
      go_wp2_with fail
      go_ret
      exact ⟨rfl, gr_trans hgz5 (gr_trans hg6 (gr_trans hg7 hg8))⟩
  ·
    have hnx := blk_set (blk_set (blk_set hnbx 0 (.bool false)) 1 (.int .i64 3)) 2 (.int .i64 20)
    have hgx := gr_set3 h24x (Nat.le_refl _) (.bool false) (.int .i64 3) (.int .i64 20)
    generalize (World.setCell (World.setCell (World.setCell _ _ _) _ _) _ _) = Wx at *
    generalize w2.heap.size = nx at *
    clear hg4x hvx h23x h24x hg3x hnbx
    have hn1 : Wx.heap[nx]? = some (.cells #[.bool false, .int .i64 3, .int .i64 20] 35 (0, 0)) := hnx
    have hs3 := Rd.lt2 (Rd.keep hs2 hgx (by simp))
    have hS1 := hS0.keep hgx
    have hgw := gr_trans hga hgx
    clear hnx hs2 hS0 hga hgx b0 hws hdx
    try clear n0 n1 n2 nf
    go_wp2_with fail
    have hdy : Wx.grownBy (Wx.drew) none := gr_drew (gr_refl Wx none)
    go_region_held3 (fun W => W.cell? ⟨w1.heap.size, 0, none⟩ = some (.slice ap np cp) ∧ W.cell? ⟨w1.heap.size, 1, none⟩ = some (.slice an nn cn) ∧ W.cell? ⟨w1.heap.size, 2, none⟩ = some (.pointer none) ∧ W.cell? ⟨w1.heap.size, 3, none⟩ = some (.slice as' 1 cs)) (first | exact SB.keep hS1 h24y | exact SB.keep hS1 (gr_alloc h24y _) | exact SB.keep hS1 (gr_set3 h24y (by first | exact Nat.le_refl _ | exact h23y.size) _ _ _) | exact SB.keep hS1 h23y | exact SB.keep hS1 (gr_alloc h23y _) | exact SB.keep hS1 hdy | exact SB.keep hS1 (gr_alloc hdy _)) (first | (go_at_call 14; refine (views_0 _).mono ?_; rintro e w3y ⟨avy, cvy, rfl, hvy, hg3y⟩; have h23y : Wx.grownBy w3y none := (by first | exact gr_trans hdy hg3y | exact gr_trans (gr_alloc hdy _) hg3y); try (have hnay := gr_blk hg3y (heap_new (Wx).drew (.cells #[.bool false, .int .i64 0, .int .i64 0] 35) (Wx).heap.size rfl) (by simp))) | (go_at_call 6; (first | refine (Choose_10 hs3 h23y hvy).mono ?_ | refine (Choose_10 hs3 (gr_alloc h23y _) (Rd.keep hvy (World.grownBy_alloc _ _ none) (by simp))).mono ?_); rintro e w4y ⟨rfl, hg4y⟩; have h24y : Wx.grownBy w4y none := (by first | exact gr_trans h23y hg4y | exact gr_trans (gr_alloc h23y _) hg4y); try (first | have hnby := gr_blk hg4y hnay (by simp) | have hnby := gr_blk hg4y (heap_new w3y (.cells #[.bool false, .int .i64 0, .int .i64 0] 35) _ rfl) (by simp)); try (have n0 := blk_cell (l := [_, _, _]) hnby 0 _ rfl; have n1 := blk_cell (l := [_, _, _]) hnby 1 _ rfl; have n2 := blk_cell (l := [_, _, _]) hnby 2 _ rfl; have nf := blk_free hnby)))
    ·
      have hny := heap_new w4y (.cells #[.bool true, .int .i64 0, .int .i64 100] 35) _ rfl
      have hgy := gr_alloc h24y (.cells #[.bool true, .int .i64 0, .int .i64 100] 35)
      generalize (w4y.alloc _) = Wy at *
      generalize w4y.heap.size = ny at *
      clear hg4y hvy h23y h24y hg3y
      have hn2 := gr_blk hgy hn1 (by simp)
      have hm2 : Wy.heap[ny]? = some (.cells #[.bool true, .int .i64 0, .int .i64 100] 35 (0, 0)) := hny
      have hgz := gr_trans hgw hgy
      have x0 := blk_cell (l := [_, _, _]) hn2 0 _ rfl
      have x1 := blk_cell (l := [_, _, _]) hn2 1 _ rfl
      have x2 := blk_cell (l := [_, _, _]) hn2 2 _ rfl
      have z0 := blk_cell (l := [_, _, _]) hm2 0 _ rfl
      have z1 := blk_cell (l := [_, _, _]) hm2 1 _ rfl
      have z2 := blk_cell (l := [_, _, _]) hm2 2 _ rfl
      have hl1 := blk_lt hn2
      have hl2 := blk_lt hm2
      clear hny hn1 hs3 hS1 hgw hgy hdy
      try clear n0 n1 n2 nf
      go_wp2_with fail
      refine (Text_0 _).mono ?_
      rintro e wa ⟨rfl, hg5⟩
      have hn5 := gr_blk hg5 hm2 (by simp)
      have hgz5 := gr_trans hgz hg5
      have z0 := blk_cell (l := [_, _, _]) hn5 0 _ rfl
      have z1 := blk_cell (l := [_, _, _]) hn5 1 _ rfl
      have z2 := blk_cell (l := [_, _, _]) hn5 2 _ rfl
      have hl2 := blk_lt hn5
      go_wp2_with fail
      refine (Text_1 (hG.keep hgz5 (by simp))).mono ?_
      rintro e wb ⟨rfl, hg6⟩
      go_wp2_with fail
      refine (views_0 _).mono ?_
      rintro e wc ⟨av, cv, rfl, hv, hg7⟩
      go_wp2_with fail
      refine (Gain_0 (F := (· < wc.heap.size)) (fun k h => h) (Rd.lt2 hv)).mono ?_
      rintro e wd ⟨rfl, hg8⟩
      go_wp2_with fail
      go_ret
      exact ⟨rfl, gr_trans hgz5 (gr_trans hg6 (gr_trans hg7 hg8))⟩
    ·
      have hny := blk_set (blk_set (blk_set hnby 0 (.bool true)) 1 (.int .i64 0)) 2 (.int .i64 100)
      have hgy := gr_set3 h24y (h23y.size) (.bool true) (.int .i64 0) (.int .i64 100)
      generalize (World.setCell (World.setCell (World.setCell _ _ _) _ _) _ _) = Wy at *
      generalize w3y.heap.size = ny at *
      clear hg4y hvy h23y h24y hg3y hnby
      have hn2 := gr_blk hgy hn1 (by simp)
      have hm2 : Wy.heap[ny]? = some (.cells #[.bool true, .int .i64 0, .int .i64 100] 35 (0, 0)) := hny
      have hgz := gr_trans hgw hgy
      have x0 := blk_cell (l := [_, _, _]) hn2 0 _ rfl
      have x1 := blk_cell (l := [_, _, _]) hn2 1 _ rfl
      have x2 := blk_cell (l := [_, _, _]) hn2 2 _ rfl
      have z0 := blk_cell (l := [_, _, _]) hm2 0 _ rfl
      have z1 := blk_cell (l := [_, _, _]) hm2 1 _ rfl
      have z2 := blk_cell (l := [_, _, _]) hm2 2 _ rfl
      have hl1 := blk_lt hn2
      have hl2 := blk_lt hm2
      clear hny hn1 hs3 hS1 hgw hgy hdy
      try clear n0 n1 n2 nf
      go_wp2_with fail
      refine (Text_0 _).mono ?_
      rintro e wa ⟨rfl, hg5⟩
      have hn5 := gr_blk hg5 hm2 (by simp)
      have hgz5 := gr_trans hgz hg5
      have z0 := blk_cell (l := [_, _, _]) hn5 0 _ rfl
      have z1 := blk_cell (l := [_, _, _]) hn5 1 _ rfl
      have z2 := blk_cell (l := [_, _, _]) hn5 2 _ rfl
      have hl2 := blk_lt hn5
      go_wp2_with fail
      refine (Text_1 (hG.keep hgz5 (by simp))).mono ?_
      rintro e wb ⟨rfl, hg6⟩
      go_wp2_with fail
      refine (views_0 _).mono ?_
      rintro e wc ⟨av, cv, rfl, hv, hg7⟩
      go_wp2_with fail
      refine (Gain_0 (F := (· < wc.heap.size)) (fun k h => h) (Rd.lt2 hv)).mono ?_
      rintro e wd ⟨rfl, hg8⟩
      go_wp2_with fail
      go_ret
      exact ⟨rfl, gr_trans hgz5 (gr_trans hg6 (gr_trans hg7 hg8))⟩
    ·
      have hny := blk_set (blk_set (blk_set hnby 0 (.bool true)) 1 (.int .i64 0)) 2 (.int .i64 100)
      have hgy := gr_set3 h24y (Nat.le_refl _) (.bool true) (.int .i64 0) (.int .i64 100)
      generalize (World.setCell (World.setCell (World.setCell _ _ _) _ _) _ _) = Wy at *
      generalize Wx.heap.size = ny at *
      clear hg4y hvy h23y h24y hg3y hnby
      have hn2 := gr_blk hgy hn1 (by simp)
      have hm2 : Wy.heap[ny]? = some (.cells #[.bool true, .int .i64 0, .int .i64 100] 35 (0, 0)) := hny
      have hgz := gr_trans hgw hgy
      have x0 := blk_cell (l := [_, _, _]) hn2 0 _ rfl
      have x1 := blk_cell (l := [_, _, _]) hn2 1 _ rfl
      have x2 := blk_cell (l := [_, _, _]) hn2 2 _ rfl
      have z0 := blk_cell (l := [_, _, _]) hm2 0 _ rfl
      have z1 := blk_cell (l := [_, _, _]) hm2 1 _ rfl
      have z2 := blk_cell (l := [_, _, _]) hm2 2 _ rfl
      have hl1 := blk_lt hn2
      have hl2 := blk_lt hm2
      clear hny hn1 hs3 hS1 hgw hgy hdy
      try clear n0 n1 n2 nf
      go_wp2_with fail
      refine (Text_0 _).mono ?_
      rintro e wa ⟨rfl, hg5⟩
      have hn5 := gr_blk hg5 hm2 (by simp)
      have hgz5 := gr_trans hgz hg5
      have z0 := blk_cell (l := [_, _, _]) hn5 0 _ rfl
      have z1 := blk_cell (l := [_, _, _]) hn5 1 _ rfl
      have z2 := blk_cell (l := [_, _, _]) hn5 2 _ rfl
      have hl2 := blk_lt hn5
      go_wp2_with fail
      refine (Text_1 (hG.keep hgz5 (by simp))).mono ?_
      rintro e wb ⟨rfl, hg6⟩
      go_wp2_with fail
      refine (views_0 _).mono ?_
      rintro e wc ⟨av, cv, rfl, hv, hg7⟩
      go_wp2_with fail
      refine (Gain_0 (F := (· < wc.heap.size)) (fun k h => h) (Rd.lt2 hv)).mono ?_
      rintro e wd ⟨rfl, hg8⟩
      go_wp2_with fail
      go_ret
      exact ⟨rfl, gr_trans hgz5 (gr_trans hg6 (gr_trans hg7 hg8))⟩
end Go.Proofs.YtoilgmdfbibniaaGreatDoor
