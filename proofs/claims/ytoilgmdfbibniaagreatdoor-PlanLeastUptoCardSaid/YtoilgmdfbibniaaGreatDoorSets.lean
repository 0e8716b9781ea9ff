/- package sets: what Expand asks of names and groups; the sets of a plain element. -/
import Derived.Test.YtoilgmdfbibniaaGreatDoorGrp
import Derived.Test.YtoilgmdfbibniaaGreatDoorNum
import Derived.Test.YtoilgmdfbibniaaGreatDoorTest
set_option linter.unusedSimpArgs false
set_option linter.unusedVariables false
set_option maxRecDepth 20000
namespace Go.Proofs.YtoilgmdfbibniaaGreatDoor
open Go Go.RowKit

def soundB (g : GroupS) : Bool := if g.1 = 1 then decide (g.2.1.length = 1) else if g.1 = 2 ∨ g.1 = 3 then decide (0 < g.2.1.length) else decide (g.1 = 4)
set_option maxHeartbeats 1000000 in
theorem sound_any {F : Nat → Prop} {vc vs : Value} {g : GroupS} {w : World} (hvc : StrsR F w vc g.2.1) (hvs : RowsR F w vs g.2.2) :
    Calls Tryz.prog 88 #[.agg #[.int .i64 (g.1 : Int), vc, vs]] w fun e w' => e = .returned (.bool (soundB g)) ∧ w.grownBy w' none := by
  have HS : Hid (soundB g = if g.1 = 1 then decide (g.2.1.length = 1) else if g.1 = 2 ∨ g.1 = 3 then decide (0 < g.2.1.length) else decide (g.1 = 4)) := rfl
  generalize soundB g = r at *
  obtain ⟨k, cols, sets⟩ := g
  simp only at hvc hvs HS ⊢
  obtain ⟨ac1, cc1, rfl, hcc, hcm⟩ := hvc.slice
  obtain ⟨as1, cs1, rfl, hsc, hsm⟩ := hvs.slice
  unfold maxLen at hcm hsm
  clear hvc hvs
  generalize cols.length = n1 at *
  generalize sets.length = n2 at *
  by_cases h1 : k = 1
  · subst h1
    have HR : Hid (r = decide (n1 = 1)) := by unfold Hid; rw [HS.out]; rfl
    clear HS
    by_cases h : n1 = 1
    · subst h
      go_enter Tryz.func88, Tryz.ntmps88
      go_wp2_with fail
      go_ret
      exact ⟨by rw [HR.out]; rfl, gr_alloc (gr_refl _ _) _⟩
    · have h' : ((n1 : Int) == 1) = false := by simp; omega
      have HR2 : Hid (r = false) := by unfold Hid; rw [HR.out, decide_eq_false h]
      clear HR h
      go_enter Tryz.func88, Tryz.ntmps88
      go_wp2_with fail
      go_ret
      exact ⟨by rw [HR2.out]; rfl, gr_alloc (gr_refl _ _) _⟩
  · by_cases h23 : k = 2 ∨ k = 3
    · have HR : Hid (r = decide (0 < n1)) := by unfold Hid; rw [HS.out, if_neg h1, if_pos h23]
      clear HS h1
      by_cases h : 0 < n1
      · have HR2 : Hid (r = true) := by unfold Hid; rw [HR.out, decide_eq_true h]
        clear HR
        rcases h23 with rfl | rfl
        all_goals
          go_enter Tryz.func88, Tryz.ntmps88
          go_wp2_with fail
          go_ret
          exact ⟨by rw [HR2.out]; simp, gr_alloc (gr_refl _ _) _⟩
      · have HR2 : Hid (r = false) := by unfold Hid; rw [HR.out, decide_eq_false h]
        obtain rfl : n1 = 0 := by omega
        clear HR
        rcases h23 with rfl | rfl
        all_goals
          go_enter Tryz.func88, Tryz.ntmps88
          go_wp2_with fail
          go_ret
          exact ⟨by rw [HR2.out]; rfl, gr_alloc (gr_refl _ _) _⟩
    · have HR : Hid (r = decide (k = 4)) := by unfold Hid; rw [HS.out, if_neg h1, if_neg h23]
      have e1 : ((k : Int) == 1) = false := by simp; omega
      have e2 : ((k : Int) == 2) = false := by simp; omega
      have e3 : ((k : Int) == 3) = false := by simp; omega
      clear HS h1 h23
      by_cases h : k = 4
      · subst h
        go_enter Tryz.func88, Tryz.ntmps88
        go_wp2_with fail
        go_ret
        exact ⟨by rw [HR.out]; rfl, gr_alloc (gr_refl _ _) _⟩
      · have h' : ((k : Int) == 4) = false := by simp; omega
        have HR2 : Hid (r = false) := by unfold Hid; rw [HR.out, decide_eq_false h]
        clear HR h
        go_enter Tryz.func88, Tryz.ntmps88
        go_wp2_with fail
        go_ret
        exact ⟨by rw [HR2.out]; rfl, gr_alloc (gr_refl _ _) _⟩

theorem notSound_any {F : Nat → Prop} {vc vs : Value} {g : GroupS} {w : World} (hvc : StrsR F w vc g.2.1) (hvs : RowsR F w vs g.2.2) :
    Calls Tryz.prog 87 #[.agg #[.int .i64 (g.1 : Int), vc, vs]] w fun e w' => e = .returned (.bool (!soundB g)) ∧ w.grownBy w' none := by
  have H := fun W (hg : w.grownBy W none) => sound_any (g := g) (hvc.keep hg (by simp)) (hvs.keep hg (by simp))
  obtain ⟨ac1, cc1, rfl, hcc, hcm⟩ := hvc.slice
  obtain ⟨as1, cs1, rfl, hsc, hsm⟩ := hvs.slice
  generalize soundB g = b at *
  clear hvc hvs
  go_enter Tryz.func87, Tryz.ntmps87
  go_wp2_with fail
  refine (H _ (gr_alloc (gr_refl _ _) _)).mono ?_
  rintro e w' ⟨rfl, hb⟩
  go_wp2_with fail
  go_ret
  exact ⟨by cases b <;> rfl, gr_trans (gr_alloc (gr_refl _ _) _) hb⟩

/-- a name that is none of the dimensions' -/
theorem unknown_any {F : Nat → Prop} {vd : Value} {ds : List ByteArray} (s : ByteArray) {db : Nat} {w : World} (hd : StrsR F w vd ds) (hc : w.cell? ⟨db, 0, none⟩ = some vd) :
    Calls Tryz.prog 90 #[.string s, .pointer (some ⟨db, 0, none⟩)] w fun e w' => e = .returned (.bool (!hasS ds s)) ∧ w.grownBy w' none := by
  have H := Contains_any F ds s vd w hd
  obtain ⟨a, c, rfl, -, -⟩ := hd.slice
  have hgs := World.block_lt_of_cell? w _ hc
  simp only at hgs
  generalize hasS ds s = b at *
  clear hd
  go_enter Tryz.func90, Tryz.ntmps90
  go_wp2_with fail
  refine H.mono ?_
  rintro e w' ⟨rfl, rfl⟩
  go_wp2_with fail
  go_ret
  exact ⟨by cases b <;> rfl, gr_refl _ _⟩

def knownB (ds l : List ByteArray) : Bool := !(l.any fun s => !hasS ds s)
theorem known_any {F F' : Nat → Prop} {vd v : Value} {ds l : List ByteArray} {db : Nat} {w : World} (hd : StrsR F w vd ds) (hc : w.cell? ⟨db, 0, none⟩ = some vd) (hl : StrsR F' w v l) :
    Calls Tryz.prog 89 #[v, .pointer (some ⟨db, 0, none⟩)] w fun e w' => e = .returned (.bool (knownB ds l)) ∧ w.grownBy w' none := by
  have H := ContainsFunc_S1 90 (.pointer (some ⟨db, 0, none⟩)) (fun args w => by kernel_rfl) (fun s => !hasS ds s) hl (fun W s hg _ => unknown_any s (hd.keep hg (by simp)) (gr_cell hg hc (by simp)))
  have HS : Hid (knownB ds l = !(l.any fun s => !hasS ds s)) := rfl
  obtain ⟨a, c, rfl, -, -⟩ := hl.slice
  generalize knownB ds l = r at *
  generalize (l.any fun s => !hasS ds s) = b at *
  clear hd hc
  go_enter Tryz.func89, Tryz.ntmps89
  go_wp2_with fail
  refine H.mono ?_
  rintro e w' ⟨rfl, hg⟩
  go_wp2_with fail
  go_ret
  exact ⟨by rw [HS.out]; cases b <;> rfl, hg⟩

/-- the set of some names -/
def ofStepN (ds : List ByteArray) (o : Int) (s : ByteArray) : Int := bits .or .i64 o (ofI [idxS ds s])
def ofNames (ds l : List ByteArray) : Int := l.foldl (ofStepN ds) 0
set_option maxHeartbeats 1000000 in
theorem own1_any {F F' : Nat → Prop} {vd v : Value} {ds l : List ByteArray} {db : Nat} {w : World} (hd : StrsR F w vd ds) (hc : w.cell? ⟨db, 0, none⟩ = some vd) (hl : StrsR F' w v l) :
    Calls Tryz.prog 132 #[v, .pointer (some ⟨db, 0, none⟩)] w fun e w' => e = .returned (.int .i64 (ofNames ds l)) ∧ w.grownBy w' none := by
  obtain ⟨a, c, rfl, hc0, hm⟩ := hl.slice
  have hm' : l.length ≤ 9223372036854775807 := by unfold maxLen at hm; omega
  clear hm hc0
  have HS : Hid (ofNames ds l = l.foldl (ofStepN ds) 0) := rfl
  generalize ofNames ds l = r at *
  go_enter Tryz.func132, Tryz.ntmps132
  go_wp2_with fail
  go_loopw [4, 9] (fun v i wr => ∃ k : Nat, k ≤ l.length ∧ i = .int .i64 k ∧ v = .int .i64 ((l.take k).foldl (ofStepN ds) 0) ∧ w.grownBy wr none) (fun _ i _ => l.length - (intOf i).toNat)
  case atStart => exact ⟨0, Nat.zero_le _, rfl, rfl, gr_refl _ _⟩
  case round =>
    obtain ⟨k, hk, rfl, rfl, hg⟩ := hrel
    by_cases hlt : k < l.length
    · obtain ⟨g, o, rfl, -, hgs, hcell⟩ := Rd.at_ (hl.keep hg (by simp)) (j := k) (by simpa using hlt)
      have hx : wr.cell? ⟨g, o + k, none⟩ = some (.string l[k]) := hcell k _ (by simp [hlt])
      have HK : Hid ((l.take (k + 1)).foldl (ofStepN ds) 0 = ofStepN ds ((l.take k).foldl (ofStepN ds) 0) l[k]) := by
        unfold Hid; rw [List.take_succ_eq_append_getElem hlt, List.foldl_append]; rfl
      have hdr : StrsR F wr vd ds := hd.keep hg (by simp)
      have hcr := gr_cell hg hc (by simp)
      have hdb := World.block_lt_of_cell? wr _ hcr
      simp only at hdb
      have HI := Index_any F ds l[k] vd wr hdr
      obtain ⟨ad, cd, rfl, -, -⟩ := hdr.slice
      clear hcell hl hd hc hdr
      generalize l[k] = x at *
      generalize (l.take k).foldl (ofStepN ds) 0 = y at *
      have HZ : Hid (ofStepN ds y x = bits .or .i64 y (ofI [idxS ds x])) := rfl
      generalize idxS ds x = ix at *
      have hga := World.grownBy_alloc wr (.cells #[.int .i64 ix] 3) none
      have HO := Of_any (wr.heap.size ≤ ·) _ [ix] _ (Rd.lit wr [.int .i64 ix] 3 1 (by unfold maxLen; omega))
      go_wp2_with fail
      refine HI.mono ?_
      rintro e w2 ⟨rfl, rfl⟩
      clear HI
      go_wp2_with fail
      refine HO.mono ?_
      rintro e w2 ⟨rfl, rfl⟩
      clear HO
      generalize ofI [ix] = z at *
      have hgg := gr_trans hg hga
      clear hga hx hcr
      go_wp2
      go_roundw
      case rel => exact ⟨k + 1, by omega, by go_num, by rw [HK.out, HZ.out], hgg⟩
      case measure => simp [intOf]; omega
    · go_wp2
      go_ret
      exact ⟨ret_int (by rw [HS.out, List.take_of_length_le (i := k) (l := l) (by omega)]), hg⟩
end Go.Proofs.YtoilgmdfbibniaaGreatDoor
