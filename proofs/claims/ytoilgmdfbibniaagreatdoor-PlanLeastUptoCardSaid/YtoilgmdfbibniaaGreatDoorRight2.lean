/- parse.Right: what a query must be. -/
import Derived.Test.YtoilgmdfbibniaaGreatDoorRight
set_option linter.unusedSimpArgs false
set_option linter.unusedVariables false
set_option maxRecDepth 20000
namespace Go.Proofs.YtoilgmdfbibniaaGreatDoor
open Go Go.RowKit

abbrev ItemQ := Nat × ByteArray
def itemCells (l : List ItemQ) : List Value := l.flatMap fun y => [.int .i64 (y.1 : Int), .string y.2]
theorem itemCells_len (l : List ItemQ) : (itemCells l).length = l.length * 2 := by
  unfold itemCells
  induction l with
  | nil => rfl
  | cons x l ih => simp [List.flatMap_cons, ih]; omega
theorem itemCells_at (l : List ItemQ) : ∀ (k : Nat) (x : ItemQ), l[k]? = some x → (itemCells l)[k * 2 + 0]? = some (.int .i64 (x.1 : Int)) ∧ (itemCells l)[k * 2 + 1]? = some (.string x.2) := by
  induction l with
  | nil => intro k x h; simp at h
  | cons y l ih =>
    intro k x h
    cases k with
    | zero => simp at h; subst h; simp [itemCells]
    | succ k =>
      have := ih k x (by simpa using h)
      have e : ∀ j, (k + 1) * 2 + j = (k * 2 + j) + 2 := by intro j; omega
      simp only [e, itemCells, List.flatMap_cons] at this ⊢
      simpa using this
def ItemsR (F : Nat → Prop) (w : World) (v : Value) (l : List ItemQ) : Prop := Rd F w v l.length (itemCells l)
theorem ItemsR.at_ {F : Nat → Prop} {w : World} {a : Option Addr} {n c : Nat} {l : List ItemQ} (h : ItemsR F w (.slice a n c) l) {k : Nat} (hk : k < l.length) :
    ∃ g o, a = some ⟨g, o, none⟩ ∧ g < w.heap.size ∧ w.cell? ⟨g, o + k * 2, none⟩ = some (.int .i64 (l[k].1 : Int)) ∧ w.cell? ⟨g, o + k * 2 + 1, none⟩ = some (.string l[k].2) := by
  have hx := itemCells_at l k _ (List.getElem?_eq_getElem hk)
  obtain ⟨g, o, ha, -, hgs, hcell⟩ := Rd.at_ (show Rd F w (.slice a n c) _ _ from h) (j := k * 2) (by rw [itemCells_len]; omega)
  exact ⟨g, o, ha, hgs, hcell _ _ hx.1, by rw [Nat.add_assoc]; exact hcell _ _ hx.2⟩
theorem ItemsR.slice {F : Nat → Prop} {w : World} {v : Value} {l : List ItemQ} (h : ItemsR F w v l) : ∃ a c, v = .slice a l.length c ∧ l.length ≤ c ∧ c ≤ maxLen := by
  obtain ⟨a, c, e, h1, h2, _⟩ := h; exact ⟨a, c, e, h1, h2⟩
theorem ItemsR.keep {F : Nat → Prop} {w w' : World} {v : Value} {l : List ItemQ} {r : Option Nat} (h : ItemsR F w v l) (hg : w.grownBy w' r) (hF : ∀ k, F k → some k ≠ r) : ItemsR F w' v l := Rd.keep h hg hF

def itemB (y : ItemQ) : Bool := decide (1 ≤ y.1) && decide (y.1 ≤ 6) && (decide (y.1 = 2) == y.2.toList.isEmpty) && (decide (y.1 = 2) || isNameB y.2)
def headB (items : List ItemQ) (table : ByteArray) (grouped : Bool) (groups : List GroupS) : Bool :=
  isNameB table && decide (1 ≤ items.length) && decide (items.length ≤ 16) && decide (groups.length ≤ 16) && (grouped == decide (0 < groups.length))
def rightB (items : List ItemQ) (table : ByteArray) (grouped : Bool) (groups : List GroupS) (bw : Bool) : Bool :=
  headB items table grouped groups && items.all itemB && !(groups.any fun g => !groupB g) && bw

set_option maxHeartbeats 4000000 in
theorem Right_any {F : Nat → Prop} {items : List ItemQ} {table : ByteArray} {grouped : Bool} {groups : List GroupS} {bw : Bool} {vi vg : Value} {pw : Option Addr} {w : World} (hG : Glob w) (hi : ItemsR F w vi items) (hvg : GroupsR F w vg groups)
    (HW : ∀ W nb, w.grownBy W none → w.heap.size ≤ nb → W.heap[nb]? = some (.cells #[.int .i64 0] 3 (0, 0)) → Calls Tryz.prog 30 #[.pointer pw, .int .i64 1, .func (.func 76) #[] #[.pointer (some ⟨nb, 0, none⟩)]] W fun e w' => e = .returned (.bool bw) ∧ W.grownBy w' (some nb)) :
    Calls Tryz.prog 33 #[.agg #[vi, .string table, .pointer pw, .bool grouped, vg]] w fun e w' => e = .returned (.bool (rightB items table grouped groups bw)) ∧ w.grownBy w' none := by
  have HS : Hid (rightB items table grouped groups bw = (headB items table grouped groups && items.all itemB && !(groups.any fun g => !groupB g) && bw)) := rfl
  have HH : Hid (headB items table grouped groups = (isNameB table && decide (1 ≤ items.length) && decide (items.length ≤ 16) && decide (groups.length ≤ 16) && (grouped == decide (0 < groups.length)))) := rfl
  have HA : Hid (items.all itemB = (items.drop 0).all itemB) := rfl
  have HI := fun W hG => IsName_all table W hG
  have HC := fun W (hg : w.grownBy W none) => ContainsFunc_G 74 (fun args w => by kernel_rfl) (fun g => !groupB g) (hvg.keep hg (by simp)) (fun W2 vc vs s hg2 _ h1 h2 => notGroup_any h1 h2 (hG.keepN (gr_trans hg hg2)))
  generalize rightB items table grouped groups bw = r at *
  generalize headB items table grouped groups = hd at *
  generalize items.all itemB = ia at *
  generalize (groups.any fun g => !groupB g) = ga at *
  obtain ⟨ai, ci, rfl, hic, him⟩ := hi.slice
  obtain ⟨ag, cg, rfl, hgc, hgm⟩ := hvg.slice
  unfold maxLen at him hgm
  have hg1 := World.grownBy_alloc w (.cells #[.slice ai items.length ci, .string table, .pointer pw, .bool grouped, .slice ag groups.length cg] 45) none
  have hblk := heap_new w (.cells #[.slice ai items.length ci, .string table, .pointer pw, .bool grouped, .slice ag groups.length cg] 45) _ rfl
  have hG1 := hG.keepN hg1
  generalize isNameB table = bt at *
  cases bt
  · have HR : Hid (r = false) := by unfold Hid; rw [HS.out, HH.out]; simp
    clear HS HH HC HW HA hi hvg
    generalize items.length = n1 at *
    generalize groups.length = n2 at *
    go_enter Tryz.func33, Tryz.ntmps33
    go_wp2_with fail
    generalize (w.alloc _) = W at *
    refine (HI W hG1).mono ?_
    rintro e w2 ⟨rfl, hb⟩
    go_wp2_with fail
    go_ret
    exact ⟨by rw [HR.out]; rfl, gr_trans hg1 (gr_below hb _)⟩
  · by_cases h1 : 1 ≤ items.length
    · by_cases h2 : items.length ≤ 16
      · by_cases h3 : groups.length ≤ 16
        · by_cases h4 : grouped = decide (0 < groups.length)
          · have HH2 : Hid (hd = true) := by unfold Hid; rw [HH.out]; simp [h1, h2, h3, h4]
            have hgd : (grouped == decide (0 < groups.length)) = true := by simp [h4]
            have HS2 : Hid (r = ((items.drop 0).all itemB && !ga && bw)) := by unfold Hid; rw [HS.out, HH2.out, HA.out]; rfl
            clear HH HS HH2 HA h4
            go_enter Tryz.func33, Tryz.ntmps33
            go_wp2_with fail
            generalize (w.alloc _) = W at *
            refine (HI W hG1).mono ?_
            rintro e w2 ⟨rfl, hb⟩
            have hblk2 := gr_blk (gr_below hb none) hblk (by simp)
            have q0 := blk_cell (l := [_, _, _, _, _]) hblk2 0 _ rfl
            have q3 := blk_cell (l := [_, _, _, _, _]) hblk2 3 _ rfl
            have q4 := blk_cell (l := [_, _, _, _, _]) hblk2 4 _ rfl
            have hg2 := gr_trans hg1 (gr_below hb none)
            clear hb hg1 hblk HI hG1
            go_wp2_with fail
            clear q0 q3 q4
            go_loopw [40] (fun i wr => ∃ k : Nat, k ≤ items.length ∧ i = .int .i64 k ∧ Hid (r = ((items.drop k).all itemB && !ga && bw)) ∧ w.grownBy wr none ∧ wr.heap[w.heap.size]? = some (.cells #[.slice ai items.length ci, .string table, .pointer pw, .bool grouped, .slice ag groups.length cg] 45 (0, 0))) (fun i _ => items.length - (intOf i).toNat)
            case atStart => exact ⟨0, Nat.zero_le _, rfl, HS2, hg2, hblk2⟩
            case round =>
              clear HS2 hg2 hblk2
              obtain ⟨k, hk, rfl, HR, hg, hblk⟩ := hrel
              by_cases hlt : k < items.length
              · obtain ⟨g, o, rfl, hgs, c0, c1⟩ := (hi.keep hg (by simp)).at_ hlt
                have HT : Hid (r = (itemB items[k] && (items.drop (k + 1)).all itemB && !ga && bw)) := by
                  unfold Hid; rw [HR.out, List.drop_eq_getElem_cons hlt]; rfl
                have HB : Hid (itemB items[k] = (decide (1 ≤ items[k].1) && decide (items[k].1 ≤ 6) && (decide (items[k].1 = 2) == items[k].2.toList.isEmpty) && (decide (items[k].1 = 2) || isNameB items[k].2))) := rfl
                have hga := World.grownBy_alloc wr (.cells #[.int .i64 (items[k].1 : Int), .string items[k].2] 81) none
                have HI := IsName_all items[k].2 _ (hG.keepN (gr_trans hg hga))
                have hblk2 := gr_blk hga hblk (by simp)
                have hgg := gr_trans hg hga
                clear HR hi hga HC HW hvg hG
                generalize itemB items[k] = ib at *
                generalize items[k].1 = y1 at *
                generalize isNameB items[k].2 = bn at *
                generalize items[k].2 = y2 at *
                by_cases e1 : 1 ≤ y1
                · by_cases e6 : y1 ≤ 6
                  · by_cases e2 : y1 = 2
                    · subst e2
                      cases he : y2.toList.isEmpty
                      · have HF : Hid (r = false) := by unfold Hid; rw [HT.out, HB.out]; simp [he]
                        clear HT HB HI
                        go_wp2_with fail
                        go_ret
                        exact ⟨by rw [HF.out]; rfl, hgg⟩
                      · have HF : Hid (r = ((items.drop (k + 1)).all itemB && !ga && bw)) := by unfold Hid; rw [HT.out, HB.out]; simp [he]
                        clear HT HB HI
                        go_wp2_with fail
                        go_roundw
                        case rel => exact ⟨k + 1, by omega, by go_num, HF, hgg, hblk2⟩
                        case measure => simp [intOf]; omega
                    · have e2' : ((y1 : Int) == 2) = false := by simp; omega
                      have e2n : ((y1 : Int) != 2) = true := by simp; omega
                      cases he : y2.toList.isEmpty
                      · cases bn
                        · have HF : Hid (r = false) := by unfold Hid; rw [HT.out, HB.out]; simp [e2]
                          clear HT HB
                          go_wp2_with fail
                          refine HI.mono ?_
                          rintro e w2 ⟨rfl, hb⟩
                          clear HI
                          go_wp2_with fail
                          go_ret
                          exact ⟨by rw [HF.out]; rfl, gr_trans hgg (gr_below hb none)⟩
                        · have HF : Hid (r = ((items.drop (k + 1)).all itemB && !ga && bw)) := by unfold Hid; rw [HT.out, HB.out]; simp [he, e1, e2, e6]
                          clear HT HB
                          go_wp2_with fail
                          refine HI.mono ?_
                          rintro e w2 ⟨rfl, hb⟩
                          have hblk3 := gr_blk (gr_below hb none) hblk2 (by simp)
                          have hgg2 := gr_trans hgg (gr_below hb none)
                          clear HI
                          go_wp2_with fail
                          go_roundw
                          case rel => exact ⟨k + 1, by omega, by go_num, HF, hgg2, hblk3⟩
                          case measure => simp [intOf]; omega
                      · have HF : Hid (r = false) := by unfold Hid; rw [HT.out, HB.out]; simp [e2, he]
                        clear HT HB HI
                        go_wp2_with fail
                        go_ret
                        exact ⟨by rw [HF.out]; rfl, hgg⟩
                  · have HF : Hid (r = false) := by unfold Hid; rw [HT.out, HB.out]; simp [e6]
                    clear HT HB HI
                    go_wp2_with fail
                    go_ret
                    exact ⟨by rw [HF.out]; rfl, hgg⟩
                · have HF : Hid (r = false) := by unfold Hid; rw [HT.out, HB.out]; simp [e1]
                  clear HT HB HI
                  go_wp2_with fail
                  go_ret
                  exact ⟨by rw [HF.out]; rfl, hgg⟩
              · have HT : Hid (r = (!ga && bw)) := by unfold Hid; rw [HR.out, List.drop_eq_nil_of_le (by omega)]; rfl
                have q2 := blk_cell (l := [_, _, _, _, _]) hblk 2 _ rfl
                have q4 := blk_cell (l := [_, _, _, _, _]) hblk 4 _ rfl
                have hgs := blk_lt hblk
                have HC1 := HC wr hg
                clear HR hi HC
                go_wp2_with fail
                refine HC1.mono ?_
                rintro e w2 ⟨rfl, hg2⟩
                clear HC1
                have hblk2 := gr_blk hg2 hblk (by simp)
                have q2 := blk_cell (l := [_, _, _, _, _]) hblk2 2 _ rfl
                have hgs := blk_lt hblk2
                have hgg := gr_trans hg hg2
                cases ga
                · have hga := World.grownBy_alloc w2 (.cells #[.int .i64 0] 3) none
                  have hn := heap_new w2 (.cells #[.int .i64 0] 3) _ rfl
                  have HW1 := HW _ w2.heap.size (gr_trans hgg hga) hgg.size hn
                  have hg3 := gr_trans hgg hga
                  clear HW hga hn hvg
                  go_wp2_with fail
                  refine HW1.mono ?_
                  rintro e w3 ⟨rfl, hg4⟩
                  go_wp2_with fail
                  go_ret
                  exact ⟨by rw [HT.out]; rfl, gr_trans' hg3 hg4 (fun b e => by cases e; exact hgg.size)⟩
                · clear HW hvg
                  go_wp2_with fail
                  go_ret
                  exact ⟨by rw [HT.out]; rfl, hgg⟩
          · have hgd : (grouped == decide (0 < groups.length)) = false := by simpa using h4
            have HR : Hid (r = false) := by unfold Hid; rw [HS.out, HH.out]; simp [h4]
            clear HS HH HC HW HA hi hvg
            clear h4
            generalize items.length = n1 at *
            generalize groups.length = n2 at *
            go_enter Tryz.func33, Tryz.ntmps33
            go_wp2_with fail
            generalize (w.alloc _) = W at *
            refine (HI W hG1).mono ?_
            rintro e w2 ⟨rfl, hb⟩
            have hblk2 := gr_blk (gr_below hb none) hblk (by simp)
            have q0 := blk_cell (l := [_, _, _, _, _]) hblk2 0 _ rfl
            have q3 := blk_cell (l := [_, _, _, _, _]) hblk2 3 _ rfl
            have q4 := blk_cell (l := [_, _, _, _, _]) hblk2 4 _ rfl
            go_wp2_with fail
            go_ret
            exact ⟨by rw [HR.out]; rfl, gr_trans hg1 (gr_below hb _)⟩
        · have HR : Hid (r = false) := by unfold Hid; rw [HS.out, HH.out]; simp [h3]
          clear HS HH HC HW HA hi hvg
          skip
          generalize items.length = n1 at *
          generalize groups.length = n2 at *
          go_enter Tryz.func33, Tryz.ntmps33
          go_wp2_with fail
          generalize (w.alloc _) = W at *
          refine (HI W hG1).mono ?_
          rintro e w2 ⟨rfl, hb⟩
          have hblk2 := gr_blk (gr_below hb none) hblk (by simp)
          have q0 := blk_cell (l := [_, _, _, _, _]) hblk2 0 _ rfl
          have q3 := blk_cell (l := [_, _, _, _, _]) hblk2 3 _ rfl
          have q4 := blk_cell (l := [_, _, _, _, _]) hblk2 4 _ rfl
          go_wp2_with fail
          go_ret
          exact ⟨by rw [HR.out]; rfl, gr_trans hg1 (gr_below hb _)⟩
      · have HR : Hid (r = false) := by unfold Hid; rw [HS.out, HH.out]; simp [h2]
        clear HS HH HC HW HA hi hvg
        skip
        generalize items.length = n1 at *
        generalize groups.length = n2 at *
        go_enter Tryz.func33, Tryz.ntmps33
        go_wp2_with fail
        generalize (w.alloc _) = W at *
        refine (HI W hG1).mono ?_
        rintro e w2 ⟨rfl, hb⟩
        have hblk2 := gr_blk (gr_below hb none) hblk (by simp)
        have q0 := blk_cell (l := [_, _, _, _, _]) hblk2 0 _ rfl
        have q3 := blk_cell (l := [_, _, _, _, _]) hblk2 3 _ rfl
        have q4 := blk_cell (l := [_, _, _, _, _]) hblk2 4 _ rfl
        go_wp2_with fail
        go_ret
        exact ⟨by rw [HR.out]; rfl, gr_trans hg1 (gr_below hb _)⟩
    · have HR : Hid (r = false) := by unfold Hid; rw [HS.out, HH.out]; simp [h1]
      clear HS HH HC HW HA hi hvg
      skip
      generalize items.length = n1 at *
      generalize groups.length = n2 at *
      go_enter Tryz.func33, Tryz.ntmps33
      go_wp2_with fail
      generalize (w.alloc _) = W at *
      refine (HI W hG1).mono ?_
      rintro e w2 ⟨rfl, hb⟩
      have hblk2 := gr_blk (gr_below hb none) hblk (by simp)
      have q0 := blk_cell (l := [_, _, _, _, _]) hblk2 0 _ rfl
      have q3 := blk_cell (l := [_, _, _, _, _]) hblk2 3 _ rfl
      have q4 := blk_cell (l := [_, _, _, _, _]) hblk2 4 _ rfl
      go_wp2_with fail
      go_ret
      exact ⟨by rw [HR.out]; rfl, gr_trans hg1 (gr_below hb _)⟩
end Go.Proofs.YtoilgmdfbibniaaGreatDoor
