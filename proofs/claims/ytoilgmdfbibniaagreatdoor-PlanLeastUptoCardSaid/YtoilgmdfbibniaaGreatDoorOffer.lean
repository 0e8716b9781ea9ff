/- package plan: Choose, Text, Gain at the chapter's views. -/
import Derived.Test.YtoilgmdfbibniaaGreatDoorNeed
import Derived.Test.YtoilgmdfbibniaaGreatDoorChoose
import Derived.Test.YtoilgmdfbibniaaGreatDoorCaps
set_option linter.unusedSimpArgs false
set_option linter.unusedVariables false
set_option maxRecDepth 20000
namespace Go.Proofs.YtoilgmdfbibniaaGreatDoor
open Go Go.RowKit

def ChooseF (t : TT) (sets : List Int) (l : List VI) (head facts : Int) : PL := chooseF (needF t sets) (if (readsT t).2 = true then [] else l) head facts

theorem Choose_any (F : Nat → Prop) (t : TT) (sets : List Int) (l : List VI) (p q v s vv : Value) (head facts : Int) (w : World) (hp : p.oneCell' = true) (hq : q.oneCell' = true) (hF : ∀ k, F k → k < w.heap.size) (ht : TestR F w v t) (hs : IntsR F w s sets) (hv : VIsR F w vv l) :
    Calls Tryz.prog 6 #[.agg #[p, q, v, s], vv, .int .i64 head, .int .i64 facts] w fun e w' => e = .returned (ChooseF t sets l head facts).val ∧ w.grownBy w' none := by
  obtain ⟨av, cv, rfl, -, -, -⟩ := id hv
  obtain ⟨a, c, rfl, hc, hm, -⟩ := id hs
  obtain ⟨pv, rfl⟩ := ht.ptr
  have HS : Hid (ChooseF t sets l head facts = chooseF (needF t sets) (if (readsT t).2 = true then [] else l) head facts) := rfl
  have HN := fun W (hg : w.grownBy W none) => Need_any F t sets p q (.pointer pv) (.slice a sets.length c) W hp hq (fun k hk => Nat.lt_of_lt_of_le (hF k hk) hg.size) (ht.keep hg (by simp)) (Rd.keep hs hg (by simp))
  have HC := fun n W (hg : w.grownBy W none) => choose_any F n l (.slice av l.length cv) head facts W (fun k hk => Nat.lt_of_lt_of_le (hF k hk) hg.size) (Rd.keep hv hg (by simp))
  have HC0 := fun n W (hg : w.grownBy W none) => choose_any F n [] (.slice none 0 0) head facts W (fun k hk => Nat.lt_of_lt_of_le (hF k hk) hg.size) (Rd.nil _ _)
  generalize ChooseF t sets l head facts = res at *
  generalize needF t sets = nd at *
  generalize (readsT t).2 = rd at *
  clear hs ht hv
  have hga := gr_alloc (World.grownBy_alloc w (.cells #[p, q, .pointer pv, .slice a sets.length c] 27) none) (.cells #[.bool false, .int .i64 0, .int .i64 0] 35)
  have b0 := heap_old _ (.cells #[.bool false, .int .i64 0, .int .i64 0] 35) _ _ (heap_new w (.cells #[p, q, .pointer pv, .slice a sets.length c] 27) _ rfl)
  have b1 := heap_new (w.alloc (.cells #[p, q, .pointer pv, .slice a sets.length c] 27)) (.cells #[.bool false, .int .i64 0, .int .i64 0] 35) (w.heap.size + 1) (by simp)
  go_enter Tryz.func6, Tryz.ntmps6
  go_wp2_with fail
  generalize ((w.alloc _).alloc _) = w1 at *
  have c0 := blk_cell (l := [_, _, _, _]) b0 0 _ rfl
  have c1 := blk_cell (l := [_, _, _, _]) b0 1 _ rfl
  have c2 := blk_cell (l := [_, _, _, _]) b0 2 _ rfl
  have c3 := blk_cell (l := [_, _, _, _]) b0 3 _ rfl
  have hs0 := blk_lt b0
  refine (HN w1 hga).mono ?_
  rintro e w2 ⟨rfl, hg2⟩
  have hga2 := gr_trans hga hg2
  have b2 := gr_blk hg2 b1 (by simp)
  clear hga b0 b1 c0 c1 c2 c3 hs0 hg2 HN
  cases rd
  · rw [if_neg (by simp)] at HS
    go_wp2_with fail
    refine (HC nd w2 hga2).mono ?_
    clear HC HC0
    rintro e w3 ⟨rfl, hg3⟩
    have hga3 := gr_trans hga2 hg3
    have b3 := gr_blk hg3 b2 (by simp)
    clear hga2 hg3 b2
    rw [← HS.out]
    obtain ⟨r1, r2, r3⟩ := res
    dsimp only [PL.val]
    clear HS
    have p0 := blk_cell (l := [_, _, _]) b3 0 _ rfl
    have p1 := blk_cell (l := [_, _, _]) b3 1 _ rfl
    have p2 := blk_cell (l := [_, _, _]) b3 2 _ rfl
    have pf := blk_free b3
    go_wp2_with fail
    refine bodyPost_ret (v := .agg #[.bool r1, .int .i64 r2, .int .i64 r3]) ?_ rfl ⟨rfl, ?_⟩
    · have hbF := blk_set (blk_set (blk_set b3 0 (.bool r1)) 1 (.int .i64 r2)) 2 (.int .i64 r3)
      generalize (World.setCell _ _ _) = W at *
      have c0 := blk_cell (l := [_, _, _]) hbF 0 _ rfl
      have c1 := blk_cell (l := [_, _, _]) hbF 1 _ rfl
      have c2 := blk_cell (l := [_, _, _]) hbF 2 _ rfl
      simp [results, Tryz.results6, go_sem, c0, c1, c2]
    · exact gr_set (gr_set (gr_set hga3 (by simp) _) (by simp) _) (by simp) _
  · rw [if_pos rfl] at HS
    go_wp2_with fail
    refine (HC0 nd w2 hga2).mono ?_
    clear HC HC0
    rintro e w3 ⟨rfl, hg3⟩
    have hga3 := gr_trans hga2 hg3
    have b3 := gr_blk hg3 b2 (by simp)
    clear hga2 hg3 b2
    rw [← HS.out]
    obtain ⟨r1, r2, r3⟩ := res
    dsimp only [PL.val]
    clear HS
    have p0 := blk_cell (l := [_, _, _]) b3 0 _ rfl
    have p1 := blk_cell (l := [_, _, _]) b3 1 _ rfl
    have p2 := blk_cell (l := [_, _, _]) b3 2 _ rfl
    have pf := blk_free b3
    go_wp2_with fail
    refine bodyPost_ret (v := .agg #[.bool r1, .int .i64 r2, .int .i64 r3]) ?_ rfl ⟨rfl, ?_⟩
    · have hbF := blk_set (blk_set (blk_set b3 0 (.bool r1)) 1 (.int .i64 r2)) 2 (.int .i64 r3)
      generalize (World.setCell _ _ _) = W at *
      have c0 := blk_cell (l := [_, _, _]) hbF 0 _ rfl
      have c1 := blk_cell (l := [_, _, _]) hbF 1 _ rfl
      have c2 := blk_cell (l := [_, _, _]) hbF 2 _ rfl
      simp [results, Tryz.results6, go_sem, c0, c1, c2]
    · exact gr_set (gr_set (gr_set hga3 (by simp) _) (by simp) _) (by simp) _

def views0 : List VI := [⟨7, 2, 9, 50, 0, 0⟩, ⟨3, 2, 9, 20, 0, 0⟩, ⟨1, 1, 9, 5, 0, 0⟩]
theorem views_0 (w : World) : Calls Tryz.prog 14 #[] w fun e w' => ∃ a c, e = .returned (.slice a 3 c) ∧ VIsR (w.heap.size ≤ ·) w' (.slice a 3 c) views0 ∧ w.grownBy w' none := by
  have h1 := Rd.lit w [.int .i64 7, .int .i64 2, .int .i64 9, .int .i64 50, .int .i64 0, .int .i64 0, .int .i64 3, .int .i64 2, .int .i64 9, .int .i64 20, .int .i64 0, .int .i64 0, .int .i64 1, .int .i64 1, .int .i64 9, .int .i64 5, .int .i64 0, .int .i64 0] 32 3 (by decide)
  have h2 := World.grownBy_alloc w (.cells #[.int .i64 7, .int .i64 2, .int .i64 9, .int .i64 50, .int .i64 0, .int .i64 0, .int .i64 3, .int .i64 2, .int .i64 9, .int .i64 20, .int .i64 0, .int .i64 0, .int .i64 1, .int .i64 1, .int .i64 9, .int .i64 5, .int .i64 0, .int .i64 0] 32) none
  go_enter Tryz.func14, Tryz.ntmps14
  go_wp2_with fail
  refine bodyPost_ret (v := .slice (some ⟨w.heap.size, 0, none⟩) 3 3) ?_ rfl ⟨_, _, rfl, h1, h2⟩
  simp [results, Tryz.results14, go_sem]

theorem Text_0 (w : World) : Calls Tryz.prog 15 #[.agg #[.bool false, .int .i64 3, .int .i64 20]] w fun e w' => e = .returned (.string (⟨#[118, 105, 101, 119, 32, 51, 44, 32, 50, 48]⟩ : ByteArray)) ∧ w.grownBy w' none := by
  have h20 := fun W => Tryz.strconv_Itoa_small 20 (by decide) W
  have h3 := fun W => Tryz.strconv_Itoa_small 3 (by decide) W
  rw [show (⟨(Lib.decDigits 20).toArray⟩ : ByteArray) = ⟨#[50, 48]⟩ by kernel_rfl] at h20
  rw [show (⟨(Lib.decDigits 3).toArray⟩ : ByteArray) = ⟨#[51]⟩ by kernel_rfl] at h3
  have hg := World.grownBy_alloc w (.cells #[.bool false, .int .i64 3, .int .i64 20] 35) none
  go_enter Tryz.func15, Tryz.ntmps15
  go_wp2_with fail
  refine (h20 _).mono ?_
  rintro e w1 ⟨rfl, rfl⟩
  go_wp2_with fail
  refine (h3 _).mono ?_
  rintro e w1 ⟨rfl, rfl⟩
  go_wp2_with fail
  go_ret
  exact ⟨rfl, hg⟩
theorem gr_growN {w w' : World} {r : Option Nat} (h : w.grownBy w' r) (k : Nat) (os : Array Obj) : w.grownBy (Sort.grow (w'.drewN k) os) r := by
  refine gr_trans (gr_drewN h k) ⟨rfl, rfl, rfl, by simp, fun i hi _ => ?_⟩
  show ((w'.drewN k).heap ++ os)[i]? = _
  rw [Array.getElem?_append_left hi]
theorem Text_1 {w : World} (hG : Glob w) : Calls Tryz.prog 15 #[.agg #[.bool true, .int .i64 0, .int .i64 100]] w fun e w' => e = .returned (.string (⟨#[97, 108, 108, 32, 102, 97, 99, 116, 115, 44, 32, 49, 48, 48]⟩ : ByteArray)) ∧ w.grownBy w' none := by
  have hg := World.grownBy_alloc w (.cells #[.bool true, .int .i64 0, .int .i64 100] 35) none
  have h1 := Tryz.strconv_Itoa 100 (by decide) (by decide) _ (hG.keep hg (by simp)).p10
  rw [show (⟨(Lib.itoa 100).toArray⟩ : ByteArray) = ⟨#[49, 48, 48]⟩ by kernel_rfl] at h1
  have b0 := heap_new w (.cells #[.bool true, .int .i64 0, .int .i64 100] 35) _ rfl
  go_enter Tryz.func15, Tryz.ntmps15
  go_wp2_with fail
  refine h1.mono ?_
  clear h1
  rintro e w1 ⟨rfl, k, os, rfl⟩
  have hg1 := World.grownBy_alloc w (.cells #[.bool true, .int .i64 0, .int .i64 100] 35) none
  have b1 := gr_blk (gr_growN (gr_refl (w.alloc (.cells #[.bool true, .int .i64 0, .int .i64 100] 35)) none) k os) b0 (by simp)
  have hg2 := gr_growN hg k os
  generalize (Sort.grow _ _) = w1 at *
  have c0 := blk_cell (l := [_, _, _]) b1 0 _ rfl
  have hws := blk_lt b1
  clear b0 b1 hg1
  go_wp2_with fail
  go_ret
  exact ⟨rfl, hg2⟩
end Go.Proofs.YtoilgmdfbibniaaGreatDoor
