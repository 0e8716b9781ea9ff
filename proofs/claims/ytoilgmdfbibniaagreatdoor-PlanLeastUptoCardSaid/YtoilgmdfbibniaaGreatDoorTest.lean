/- Tests (conditions with numbers): nodes, reads, Reads. -/
import Derived.Test.YtoilgmdfbibniaaGreatDoorNum
import Derived.Laws.EntriesVeiled
set_option linter.unusedSimpArgs false
set_option linter.unusedVariables false
set_option maxRecDepth 20000
namespace Go.Proofs.YtoilgmdfbibniaaGreatDoor
open Go Go.RowKit

theorem List_any (s : Int) (w : World) : Calls Tryz.prog 19 #[.int .i64 s] w fun e w' => ∃ v, e = .returned v ∧ IntsR (w.heap.size ≤ ·) w' v (listI s) ∧ Below w.heap.size w w' := by
  by_cases h : 0 ≤ s ∧ s ≤ 63
  · refine (List_in s w h.1 h.2).mono ?_
    rintro e w' ⟨v, rfl, hown, hb⟩
    refine ⟨v, rfl, ?_, hb⟩
    have := Rd.own hown
    unfold IntsR listI
    rw [if_pos h]
    exact this
  · refine (List_out s w h).mono ?_
    rintro e w' ⟨rfl, rfl⟩
    refine ⟨_, rfl, ?_, Below.refl _ _⟩
    unfold IntsR listI
    rw [if_neg h]
    exact Rd.nil _ _

/-- a test, as far as it is read for what it asks -/
inductive TT where
  | nil
  | node (kind : Int) (l r : TT) (meas : Bool) (index : Int)

def TestR (F : Nat → Prop) (w : World) : Value → TT → Prop
  | v, .nil => v = .pointer none
  | v, .node kind l r meas index => ∃ g o vl vr, v = .pointer (some ⟨g, o, none⟩) ∧ F g ∧ w.cell? ⟨g, o, none⟩ = some (.int .i64 kind) ∧ w.cell? ⟨g, o + 1, none⟩ = some vl ∧ w.cell? ⟨g, o + 2, none⟩ = some vr ∧
      w.cell? ⟨g, o + 3, none⟩ = some (.bool meas) ∧ w.cell? ⟨g, o + 4, none⟩ = some (.int .i64 index) ∧ TestR F w vl l ∧ TestR F w vr r

theorem TestR.keep {F : Nat → Prop} {w w' : World} {r : Option Nat} (hg : w.grownBy w' r) (hF : ∀ k, F k → some k ≠ r) : ∀ {v : Value} {t : TT}, TestR F w v t → TestR F w' v t
  | v, .nil, h => h
  | v, .node kind l r meas index, ⟨g, o, vl, vr, hv, hf, h0, h1, h2, h3, h4, hl, hr⟩ =>
    ⟨g, o, vl, vr, hv, hf, hg.cell h0 (hF g hf), hg.cell h1 (hF g hf), hg.cell h2 (hF g hf), hg.cell h3 (hF g hf), hg.cell h4 (hF g hf), TestR.keep hg hF hl, TestR.keep hg hF hr⟩

theorem TestR.ptr {F : Nat → Prop} {w : World} {v : Value} {t : TT} (h : TestR F w v t) : ∃ p, v = .pointer p := by
  cases t with
  | nil => exact ⟨none, h⟩
  | node => obtain ⟨g, o, _, _, hv, _⟩ := h; exact ⟨_, hv⟩

def walkN : TT → Int → Int
  | .nil, n => n
  | .node _ l r _ _, n => if 4096 < n then n else walkN r (walkN l (n + 1))
theorem walkN_bd (t : TT) : ∀ n : Int, 0 ≤ n → n ≤ 4097 → 0 ≤ walkN t n ∧ walkN t n ≤ 4097 := by
  induction t with
  | nil => intro n h0 h1; exact ⟨h0, h1⟩
  | node k l r m i ihl ihr =>
    intro n h0 h1
    simp only [walkN]
    split
    · exact ⟨h0, h1⟩
    · have := ihl (n + 1) (by omega) (by omega)
      exact ihr _ this.1 this.2

theorem walk_any (F : Nat → Prop) (nb wb : Nat) (hFn : ¬ F nb) (hnw : nb ≠ wb) (t : TT) : ∀ (v : Value) (n : Int) (w : World), 0 ≤ n → n ≤ 4097 → TestR F w v t →
    w.cell? ⟨nb, 0, none⟩ = some (.int .i64 n) → w.frozen? ⟨nb, 0, none⟩ = false → w.cell? ⟨wb, 0, none⟩ = some (.func (.func 96) #[] #[.pointer (some ⟨nb, 0, none⟩), .pointer (some ⟨wb, 0, none⟩)]) →
    Calls Tryz.prog 96 #[v, .pointer (some ⟨nb, 0, none⟩), .pointer (some ⟨wb, 0, none⟩)] w fun e w' => e = .returned (.tuple #[]) ∧ w.grownBy w' (some nb) ∧ w'.cell? ⟨nb, 0, none⟩ = some (.int .i64 (walkN t n)) ∧ w'.frozen? ⟨nb, 0, none⟩ = false := by
  induction t with
  | nil =>
    intro v n w h0 h1 ht hn hf hw
    obtain rfl : v = .pointer none := ht
    go_enter Tryz.func96, Tryz.ntmps96
    go_wp2
    refine bodyPost_ret (results_none rfl _ _ _) rfl ?_
    exact ⟨rfl, gr_refl _ _, hn, hf⟩
  | node k l r m i ihl ihr =>
    intro v n w h0 h1 ht hn hf hw
    obtain ⟨g, o, vl, vr, rfl, hfg, c0, c1, c2, c3, c4, hl, hr⟩ := ht
    by_cases hgt : 4096 < n
    · have HS : Hid (walkN (.node k l r m i) n = n) := by simp [walkN, hgt, Hid]
      go_enter Tryz.func96, Tryz.ntmps96
      go_wp2
      refine bodyPost_ret (results_none rfl _ _ _) rfl ?_
      exact ⟨rfl, gr_refl _ _, by rw [HS.out]; exact hn, hf⟩
    · have HS : Hid (walkN (.node k l r m i) n = walkN r (walkN l (n + 1))) := by simp [walkN, hgt, Hid]
      have bdl := walkN_bd l (n + 1) (by omega) (by omega)
      have hgn : g ≠ nb := fun e => hFn (e ▸ hfg)
      have hFr : ∀ k, F k → some k ≠ some nb := fun k hk e => hFn (by cases e; exact hk)
      have hg1 : w.grownBy (w.setCell ⟨nb, 0, none⟩ (.int .i64 (n + 1))) (some nb) := gr_setR (gr_refl _ _) rfl _
      have hn1 := cell_set (.int .i64 (n + 1)) hn
      have hf1 : (w.setCell ⟨nb, 0, none⟩ (.int .i64 (n + 1))).frozen? ⟨nb, 0, none⟩ = false := by rw [World.frozen?_setCell]; exact hf
      have hl1 := hl.keep hg1 hFr
      have hr1 := hr.keep hg1 hFr
      have cl := gr_cell hg1 c1 (by simpa using hgn)
      have cr := gr_cell hg1 c2 (by simpa using hgn)
      have hw1 := gr_cell hg1 hw (by simpa using Ne.symm hnw)
      have IL := fun W' => ihl vl (n + 1) W' (by omega) (by omega)
      have IR := fun W' => ihr vr (walkN l (n + 1)) W' bdl.1 bdl.2
      clear ihl ihr
      obtain ⟨pl, rfl⟩ := hl.ptr
      obtain ⟨pr, rfl⟩ := hr.ptr
      go_enter Tryz.func96, Tryz.ntmps96
      go_wp2
      generalize w.setCell ⟨nb, 0, none⟩ (.int .i64 (n + 1)) = w1 at *
      clear c0 c1 c2 c3 c4 hl hr hw hn hf
      have hg2 : w.grownBy w1.drew (some nb) := gr_drew hg1
      have cl2 : w1.drew.cell? ⟨g, o + 1, none⟩ = _ := cl
      have cr2 : w1.drew.cell? ⟨g, o + 2, none⟩ = _ := cr
      have hw2 : w1.drew.cell? ⟨wb, 0, none⟩ = _ := hw1
      have hl2 : TestR F w1.drew _ _ := hl1.keep (gr_drew (gr_refl _ none)) (by simp)
      have hr2 : TestR F w1.drew _ _ := hr1.keep (gr_drew (gr_refl _ none)) (by simp)
      have hn2 : w1.drew.cell? ⟨nb, 0, none⟩ = _ := hn1
      have hf2 : w1.drew.frozen? ⟨nb, 0, none⟩ = false := hf1
      clear cl cr hw1 hl1 hr1 hn1 hf1 hg1
      refine still_tail 5 (by kernel_rfl) (by kernel_rfl) ?_
      simp only [List.take_succ_cons, List.take_zero, List.drop_succ_cons, List.drop_zero]
      generalize w1.drew = w2 at *
      repeat still_step
      refine wpStill_nil ?_
      go_wp2_with fail
      refine (IL w2 hl2 hn2 hf2 hw2).mono ?_
      rintro e w3 ⟨rfl, hg3, hn3, hf3⟩
      have hw3 := gr_cell (gr_drew hg3) hw2 (by simpa using Ne.symm hnw)
      have cr3 := gr_cell (gr_drew hg3) cr2 (by simpa using hgn)
      have hr3 := hr2.keep (gr_drew hg3) hFr
      have hn4 : w3.drew.cell? ⟨nb, 0, none⟩ = _ := hn3
      have hf4 : w3.drew.frozen? ⟨nb, 0, none⟩ = false := hf3
      have hg4 := gr_trans hg2 (gr_drew hg3)
      clear hl2 hr2 hn2 hf2 hw2 cl2 cr2 hg3 hn3 hf3 hg2
      go_wp2_with fail
      refine still_tail 5 (by kernel_rfl) (by kernel_rfl) ?_
      simp only [List.take_succ_cons, List.take_zero, List.drop_succ_cons, List.drop_zero]
      generalize w3.drew = w4 at *
      repeat still_step
      refine wpStill_nil ?_
      go_wp2_with fail
      refine (IR w4 hr3 hn4 hf4 hw3).mono ?_
      rintro e w5 ⟨rfl, hg5, hn5, hf5⟩
      go_wp2_with fail
      go_end0
      exact ⟨rfl, gr_trans hg4 hg5, by rw [HS.out]; exact hn5, hf5⟩

theorem nodes_any (F : Nat → Prop) (t : TT) (v : Value) (w : World) (hF : ∀ k, F k → k < w.heap.size) (ht : TestR F w v t) :
    Calls Tryz.prog 41 #[v] w fun e w' => e = .returned (.int .i64 (walkN t 0)) ∧ w.grownBy w' none := by
  obtain ⟨p, rfl⟩ := ht.ptr
  go_enter Tryz.func41, Tryz.ntmps41
  go_wp2_with fail
  have hg1 : w.grownBy ((w.alloc (.cells #[.int .i64 0] 3)).alloc (.cells #[.func (.func 96) #[] #[.pointer (some ⟨w.heap.size, 0, none⟩), .pointer (some ⟨w.heap.size + 1, 0, none⟩)]] 160)) none := gr_alloc (gr_alloc (gr_refl _ _) _) _
  refine (walk_any F w.heap.size (w.heap.size + 1) (fun h => by have := hF _ h; omega) (by omega) t _ 0 _ (by omega) (by omega) (ht.keep hg1 (by simp)) (by go_simp) (by go_simp) (by go_simp)).mono ?_
  rintro e w3 ⟨rfl, hg3, hn3, -⟩
  have hg := gr_trans' hg1 hg3 (by simp)
  clear hg1 hg3
  go_wp2
  go_ret
  exact ⟨rfl, hg⟩

def readsF : TT → Int × Bool
  | .nil => (0, false)
  | .node k l r m i => if k = 4 ∨ k = 5 then (if m = true then (0, true) else (ofI [i], false)) else (bits .or .i64 (readsF l).1 (readsF r).1, (readsF l).2 || (readsF r).2)

theorem reads_any (F : Nat → Prop) (t : TT) : ∀ (v : Value) (w : World), TestR F w v t →
    Calls Tryz.prog 42 #[v] w fun e w' => e = .returned (.tuple #[.int .i64 (readsF t).1, .bool (readsF t).2]) ∧ w.grownBy w' none := by
  induction t with
  | nil =>
    intro v w ht
    obtain rfl : v = .pointer none := ht
    go_enter Tryz.func42, Tryz.ntmps42
    go_wp2
    go_ret2
    exact ⟨rfl, gr_refl _ _⟩
  | node k l r m i ihl ihr =>
    intro v w ht
    obtain ⟨g, o, vl, vr, rfl, hfg, c0, c1, c2, c3, c4, hl, hr⟩ := ht
    have hgs := World.block_lt_of_cell? w _ c0
    simp only at hgs
    by_cases h45 : k = 4 ∨ k = 5
    · clear ihl ihr hl hr c1 c2
      cases m with
      | true =>
        have HS : Hid (readsF (.node k l r true i) = (0, true)) := by simp [readsF, h45, Hid]
        rcases h45 with rfl | rfl
        all_goals
          go_enter Tryz.func42, Tryz.ntmps42
          go_wp2
          go_ret2
          exact ⟨by rw [HS.out]; rfl, gr_refl _ _⟩
      | false =>
        have HS : Hid (readsF (.node k l r false i) = (ofI [i], false)) := by simp [readsF, h45, Hid]
        rcases h45 with rfl | rfl
        all_goals
          go_enter Tryz.func42, Tryz.ntmps42
          go_wp2_with (go_at_call 18; refine (Of_any (w.heap.size ≤ ·) _ [i] _ (Rd.lit w [.int .i64 i] 3 1 (by unfold maxLen; omega))).mono ?_; rintro e w' ⟨rfl, rfl⟩)
          go_ret2
          exact ⟨by rw [HS.out]; rfl, gr_alloc (gr_refl _ _) _⟩
    · have HS : Hid (readsF (.node k l r m i) = (bits .or .i64 (readsF l).1 (readsF r).1, (readsF l).2 || (readsF r).2)) := by simp [readsF, h45, Hid]
      have k4 : (k != 4) = true := by simp; omega
      have k5 : (k != 5) = true := by simp; omega
      clear h45
      obtain ⟨pl, rfl⟩ := hl.ptr
      obtain ⟨pr, rfl⟩ := hr.ptr
      generalize (readsF l).1 = a1 at *
      generalize (readsF l).2 = a2 at *
      generalize (readsF r).1 = b1 at *
      generalize (readsF r).2 = b2 at *
      go_enter Tryz.func42, Tryz.ntmps42
      go_wp2_with fail
      refine (ihl _ w hl).mono ?_
      rintro e w1 ⟨rfl, hg1⟩
      have c2' := gr_cell hg1 c2 (by simp)
      have hr1 := hr.keep hg1 (by simp)
      clear c0 c1 c2 c3 c4 hl hr hgs
      go_wp2_with fail
      refine (ihr _ w1 hr1).mono ?_
      rintro e w2 ⟨rfl, hg2⟩
      have hg := gr_trans hg1 hg2
      clear hr1 c2' hg1 hg2 ihl ihr
      cases a2
      · go_wp2
        go_ret2
        exact ⟨by rw [HS.out]; rfl, hg⟩
      · go_wp2
        go_ret2
        exact ⟨by rw [HS.out]; rfl, hg⟩

/-- what a test asks -/
def readsT (t : TT) : Int × Bool := if 4096 < walkN t 0 then (63, true) else readsF t
theorem Reads_any (F : Nat → Prop) (t : TT) (v : Value) (w : World) (hF : ∀ k, F k → k < w.heap.size) (ht : TestR F w v t) :
    Calls Tryz.prog 12 #[v] w fun e w' => e = .returned (.tuple #[.int .i64 (readsT t).1, .bool (readsT t).2]) ∧ w.grownBy w' none := by
  have H1 := fun W' h => reads_any F t v W' h
  have H0 := nodes_any F t v w hF ht
  have HS : Hid (readsT t = if 4096 < walkN t 0 then (63, true) else readsF t) := rfl
  obtain ⟨p, rfl⟩ := ht.ptr
  generalize walkN t 0 = n at *
  generalize (readsF t) = a at *
  obtain ⟨a1, a2⟩ := a
  by_cases hn : 4096 < n
  · rw [HS.out, if_pos hn]
    go_enter Tryz.func12, Tryz.ntmps12
    go_wp2_with fail
    refine H0.mono ?_
    rintro e w1 ⟨rfl, hg1⟩
    clear H0 H1 ht
    go_wp2
    go_ret2
    exact ⟨rfl, hg1⟩
  · rw [HS.out, if_neg hn]
    go_enter Tryz.func12, Tryz.ntmps12
    go_wp2_with fail
    refine H0.mono ?_
    rintro e w1 ⟨rfl, hg1⟩
    have ht1 := ht.keep hg1 (by simp)
    clear H0 ht
    go_wp2_with fail
    refine (H1 _ ht1).mono ?_
    rintro e w2 ⟨rfl, hg2⟩
    have hg := gr_trans hg1 hg2
    clear H1 ht1 hg1 hg2
    go_wp2
    go_ret2
    exact ⟨rfl, hg⟩
end Go.Proofs.YtoilgmdfbibniaaGreatDoor
