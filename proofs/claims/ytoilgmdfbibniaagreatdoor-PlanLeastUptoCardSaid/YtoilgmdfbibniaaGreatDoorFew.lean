/- package parse: walk over nothing, few. -/
import Derived.Test.YtoilgmdfbibniaaGreatDoorRight2
set_option linter.unusedSimpArgs false
set_option linter.unusedVariables false
set_option maxRecDepth 20000
namespace Go.Proofs.YtoilgmdfbibniaaGreatDoor
open Go Go.RowKit

theorem walk_nil (d : Int) (fv : Fn) (cs : Array Value) (w : World) : Calls Tryz.prog 30 #[.pointer none, .int .i64 d, .func fv #[] cs] w fun e w' => e = .returned (.bool true) ∧ w = w' := by
  go_enter Tryz.func30, Tryz.ntmps30
  go_wp2_with fail
  go_ret
  exact ⟨rfl, rfl⟩

theorem few1_any {F : Nat → Prop} {v : Value} {l : List ByteArray} {w : World} (h : StrsR F w v l) : Calls Tryz.prog 68 #[v] w fun e w' => e = .returned (.bool (decide (16 < l.length))) ∧ w.grownBy w' none := by
  obtain ⟨a, c, rfl, hc, hm⟩ := h.slice
  unfold maxLen at hm
  clear h
  generalize l.length = n at *
  by_cases h : 16 < n
  · go_enter Tryz.func68, Tryz.ntmps68
    go_wp2_with fail
    go_ret
    exact ⟨by simp [h]; omega, gr_refl _ _⟩
  · go_enter Tryz.func68, Tryz.ntmps68
    go_wp2_with fail
    go_ret
    exact ⟨by simp [h]; omega, gr_refl _ _⟩

def fewG (g : GroupS) : Bool := decide (g.2.1.length ≤ 16) && decide (g.2.2.length ≤ 64) && !(g.2.2.any fun s => decide (16 < s.length))
def fewB (items : List ItemQ) (groups : List GroupS) (bw : Bool) : Bool := groups.all fewG && decide (items.length ≤ 16) && decide (groups.length ≤ 16) && bw

set_option maxHeartbeats 2000000 in
theorem few_any {F : Nat → Prop} {items : List ItemQ} {table : ByteArray} {grouped : Bool} {groups : List GroupS} {bw : Bool} {vi vg : Value} {pw : Option Addr} {w : World} (hi : ItemsR F w vi items) (hvg : GroupsR F w vg groups)
    (HW : ∀ W, w.grownBy W none → Calls Tryz.prog 30 #[.pointer pw, .int .i64 1, .func (.func 69) #[] #[]] W fun e w' => e = .returned (.bool bw) ∧ W.grownBy w' none) :
    Calls Tryz.prog 29 #[.agg #[vi, .string table, .pointer pw, .bool grouped, vg]] w fun e w' => e = .returned (.bool (fewB items groups bw)) ∧ w.grownBy w' none := by
  have HS : Hid (fewB items groups bw = ((groups.drop 0).all fewG && decide (items.length ≤ 16) && decide (groups.length ≤ 16) && bw)) := rfl
  generalize fewB items groups bw = r at *
  obtain ⟨ai, ci, rfl, hic, him⟩ := hi.slice
  obtain ⟨ag, cg, rfl, hgc, hgm⟩ := hvg.slice
  unfold maxLen at him hgm
  have hg1 := World.grownBy_alloc w (.cells #[.slice ai items.length ci, .string table, .pointer pw, .bool grouped, .slice ag groups.length cg] 45) none
  have hblk := heap_new w (.cells #[.slice ai items.length ci, .string table, .pointer pw, .bool grouped, .slice ag groups.length cg] 45) _ rfl
  clear hi
  go_enter Tryz.func29, Tryz.ntmps29
  go_wp2_with fail
  generalize (w.alloc _) = W at *
  go_loopw [8] (fun i wr => ∃ k : Nat, k ≤ groups.length ∧ i = .int .i64 k ∧ Hid (r = ((groups.drop k).all fewG && decide (items.length ≤ 16) && decide (groups.length ≤ 16) && bw)) ∧ w.grownBy wr none ∧ wr.heap[w.heap.size]? = some (.cells #[.slice ai items.length ci, .string table, .pointer pw, .bool grouped, .slice ag groups.length cg] 45 (0, 0))) (fun i _ => groups.length - (intOf i).toNat)
  case atStart => exact ⟨0, Nat.zero_le _, rfl, HS, hg1, hblk⟩
  case round =>
    clear HS hg1 hblk
    obtain ⟨k, hk, rfl, HR, hg, hblk⟩ := hrel
    by_cases hlt : k < groups.length
    · obtain ⟨g, o, vc, vs, rfl, hgs, h0, h1, h2, hvc, hvs⟩ := (hvg.keep hg (by simp)).at_ hlt
      have HT : Hid (r = (fewG groups[k] && (groups.drop (k + 1)).all fewG && decide (items.length ≤ 16) && decide (groups.length ≤ 16) && bw)) := by
        unfold Hid; rw [HR.out, List.drop_eq_getElem_cons hlt]; rfl
      have HB : Hid (fewG groups[k] = (decide (groups[k].2.1.length ≤ 16) && decide (groups[k].2.2.length ≤ 64) && !(groups[k].2.2.any fun s => decide (16 < s.length)))) := rfl
      have HC := fun W (hg : wr.grownBy W none) => ContainsFunc_R0 68 (fun args w => by kernel_rfl) (fun s => decide (16 < s.length)) (hvs.keep hg (by simp)) (fun W2 a n c s hg2 _ hs => few1_any hs)
      obtain ⟨ac1, cc1, rfl, hcc, hcm⟩ := hvc.slice
      obtain ⟨as1, cs1, rfl, hsc, hsm⟩ := hvs.slice
      unfold maxLen at hcm hsm
      have hga := World.grownBy_alloc wr (.cells #[.int .i64 (groups[k].1 : Int), .slice ac1 groups[k].2.1.length cc1, .slice as1 groups[k].2.2.length cs1] 91) none
      have HC1 := HC _ hga
      have hgg := gr_trans hg hga
      have hblk2 := gr_blk hga hblk (by simp)
      clear HR hvg HW HC hvc hvs hga
      generalize fewG groups[k] = fb at *
      generalize (groups[k].2.2.any fun s => decide (16 < s.length)) = sb at *
      generalize groups[k].2.1.length = n1 at *
      generalize groups[k].2.2.length = n2 at *
      generalize groups[k].1 = y1 at *
      by_cases e1 : n1 ≤ 16
      · by_cases e2 : n2 ≤ 64
        · cases sb
          · have HF : Hid (r = ((groups.drop (k + 1)).all fewG && decide (items.length ≤ 16) && decide (groups.length ≤ 16) && bw)) := by unfold Hid; rw [HT.out, HB.out]; simp [e1, e2]
            clear HT HB
            go_wp2_with fail
            refine HC1.mono ?_
            rintro e w2 ⟨rfl, hg2⟩
            have hgg2 := gr_trans hgg hg2
            have hblk3 := gr_blk hg2 hblk2 (by simp)
            clear HC1 hg2 hgg hblk2 hblk hg
            go_wp2_with fail
            go_roundw
            case rel => exact ⟨k + 1, by omega, by go_num, HF, hgg2, hblk3⟩
            case measure => simp [intOf]; omega
          · have HF : Hid (r = false) := by unfold Hid; rw [HT.out, HB.out]; simp
            clear HT HB
            go_wp2_with fail
            refine HC1.mono ?_
            rintro e w2 ⟨rfl, hg2⟩
            go_wp2_with fail
            go_ret
            exact ⟨by rw [HF.out]; rfl, gr_trans hgg hg2⟩
        · have HF : Hid (r = false) := by unfold Hid; rw [HT.out, HB.out]; simp [e2]
          clear HT HB HC1
          go_wp2_with fail
          go_ret
          exact ⟨by rw [HF.out]; rfl, hgg⟩
      · have HF : Hid (r = false) := by unfold Hid; rw [HT.out, HB.out]; simp [e1]
        clear HT HB HC1
        go_wp2_with fail
        go_ret
        exact ⟨by rw [HF.out]; rfl, hgg⟩
    · have HT : Hid (r = (decide (items.length ≤ 16) && decide (groups.length ≤ 16) && bw)) := by unfold Hid; rw [HR.out, List.drop_eq_nil_of_le (by omega)]; rfl
      have q0 := blk_cell (l := [_, _, _, _, _]) hblk 0 _ rfl
      have q2 := blk_cell (l := [_, _, _, _, _]) hblk 2 _ rfl
      have q4 := blk_cell (l := [_, _, _, _, _]) hblk 4 _ rfl
      have hgs := blk_lt hblk
      have HW1 := HW wr hg
      clear HR HW hvg
      by_cases e1 : items.length ≤ 16
      · by_cases e2 : groups.length ≤ 16
        · have HF : Hid (r = bw) := by unfold Hid; rw [HT.out]; simp [e1, e2]
          clear HT
          go_wp2_with fail
          refine HW1.mono ?_
          rintro e w2 ⟨rfl, hg2⟩
          go_wp2_with fail
          go_ret
          exact ⟨by rw [HF.out]; rfl, gr_trans hg hg2⟩
        · have HF : Hid (r = false) := by unfold Hid; rw [HT.out]; simp [e2]
          clear HT HW1
          go_wp2_with fail
          go_ret
          exact ⟨by rw [HF.out]; rfl, hg⟩
      · have HF : Hid (r = false) := by unfold Hid; rw [HT.out]; simp [e1]
        clear HT HW1
        go_wp2_with fail
        go_ret
        exact ⟨by rw [HF.out]; rfl, hg⟩
end Go.Proofs.YtoilgmdfbibniaaGreatDoor
