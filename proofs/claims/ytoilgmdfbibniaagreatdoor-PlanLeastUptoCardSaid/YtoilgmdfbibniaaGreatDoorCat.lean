/- slices.Grow of nothing, slices.Concat of rows of texts. -/
import Derived.Test.YtoilgmdfbibniaaGreatDoorStrs
import Derived.Lib.AppendZerosOnto
set_option linter.unusedSimpArgs false
set_option linter.unusedVariables false
set_option maxRecDepth 20000
namespace Go.Proofs.YtoilgmdfbibniaaGreatDoor
open Go Go.RowKit

theorem infoStr : (Tryz.prog.info? 9).map (fun i => (i.zero, i.size, i.bytes)) = some (some (.string ⟨#[]⟩), 1, 16) := by kernel_rfl

set_option maxHeartbeats 1000000 in
theorem Grow_nil (n : Nat) (w : World) (hn : n * 16 ≤ 140737488355328) :
    Calls Tryz.prog 86 #[.slice none 0 0, .int .i64 (n : Int)] w fun e w' => ∃ v, e = .returned v ∧ w'.ownsRow w.heap.size 9 1 v 0 [] ∧ w.grownBy w' none := by
  by_cases h0 : n = 0
  · subst h0
    go_enter Tryz.func86, Tryz.ntmps86
    go_wp2
    go_ret
    exact ⟨_, rfl, World.ownsRow_nil _ _ _ _, gr_refl _ _⟩
  · obtain ⟨i0, hi, hz, hs, hb⟩ := info_parts infoStr
    have hold : (Builtin.firstCells i0.size 0 (.slice none 0 0)).run Tryz.prog w.drew = .ok ([] : List Value).toArray w.drew := by simp [Builtin.firstCells, loadCells, loadCellsFrom]
    have hG : n ≤ grownCap w n 0 9 := grownCap_ge w _ _ _
    have hGm := grownCap_le_maxLen w n 0 9 (by unfold maxLen; omega)
    have hrz : ∀ ty, (Builtin.append_ #[23, 3] ty #[.slice none 0 0, .int .i64 (n : Int)]).run Tryz.prog w =
        .ok (.slice (some ⟨w.heap.size, 0, none⟩) n (grownCap w n 0 9)) (w.drew.alloc (.cells (([] : List Value).toArray ++ Builtin.zeroCells (Value.string ⟨#[]⟩).cells n ++ Builtin.zeroCells (Value.string ⟨#[]⟩).cells (grownCap w n 0 9 - n)) 9)) := fun ty => by
      have h := Lib.run_append_grow_zeros w 23 3 ty 9 i0 (.string ⟨#[]⟩) .i64 .i64 Tryz.underlying23 Tryz.underlying3 hi hz none 0 0 [] hold n (by omega) (by rw [hs]; decide) (by omega) (by omega)
        (by rw [hb]; omega)
        (by have := growslice_fits (need := 0 + n) (old := 0) (bytes := i0.bytes) (by omega) (by rw [hb]; omega); exact this)
      simpa only [Nat.zero_add] using h
    generalize hGe : grownCap w n 0 9 = G at *
    clear hGe
    have hG63 : G ≤ 9223372036854775807 := by unfold maxLen at hGm; exact hGm
    have hown : (w.drew.alloc (.cells (([] : List Value).toArray ++ Builtin.zeroCells (Value.string ⟨#[]⟩).cells n ++ Builtin.zeroCells (Value.string ⟨#[]⟩).cells (G - n)) 9)).ownsRow w.heap.size 9 1 (.slice (some ⟨w.heap.size, 0, none⟩) 0 G) 0 [] :=
      ⟨rfl, .inr ⟨w.heap.size, G, _, rfl, Nat.le_refl _, heap_alloc_new w.drew _, Nat.zero_le _, hGm, by simp [size_zeroCells, Value.cells]; omega, by simp⟩⟩
    have hgr : w.grownBy (w.drew.alloc (.cells (([] : List Value).toArray ++ Builtin.zeroCells (Value.string ⟨#[]⟩).cells n ++ Builtin.zeroCells (Value.string ⟨#[]⟩).cells (G - n)) 9)) none := gr_alloc (gr_drew (gr_refl _ _)) _
    generalize (w.drew.alloc _) = W at *
    clear hold hi hz hs hb
    go_enter Tryz.func86, Tryz.ntmps86
    go_wp2_with (at_builtin; refine Lib.wpList_append_run _ rfl _ _ _ _ rfl _ _ rfl rfl _ _ (hrz _) ?_)
    go_ret
    exact ⟨_, rfl, hown, hgr⟩

/-- a slice of rows of texts -/
def RowsR (F : Nat → Prop) (w : World) (v : Value) (yss : List (List ByteArray)) : Prop :=
  ∃ us : List Value, us.length = yss.length ∧ (∀ (i : Nat) (u : Value) (y : List ByteArray), us[i]? = some u → yss[i]? = some y → StrsR F w u y) ∧ Rd F w v yss.length us
theorem RowsR.keep {F : Nat → Prop} {w w' : World} {v : Value} {yss : List (List ByteArray)} {r : Option Nat} (h : RowsR F w v yss) (hg : w.grownBy w' r) (hF : ∀ k, F k → some k ≠ r) : RowsR F w' v yss := by
  obtain ⟨us, hl, hr, hd⟩ := h
  exact ⟨us, hl, fun i u y hu hy => (hr i u y hu hy).keep hg hF, hd.keep hg hF⟩

set_option maxHeartbeats 2000000 in
theorem Concat_any (F : Nat → Prop) (yss : List (List ByteArray)) (v : Value) (w : World) (hF : ∀ k, F k → k < w.heap.size) (hlen : yss.flatten.length * 16 ≤ 140737488355328) (h : RowsR F w v yss) :
    Calls Tryz.prog 39 #[v] w fun e w' => ∃ u, e = .returned u ∧ w'.ownsRow w.heap.size 9 1 u yss.flatten.length (yss.flatten.map Value.string) ∧ w.grownBy w' none := by
  obtain ⟨us, hul, hrows, hrd⟩ := h
  obtain ⟨a, c, rfl, hc, hm, -⟩ := id hrd
  have hm' : yss.length ≤ 9223372036854775807 := by unfold maxLen at hm; omega
  have hle : ∀ k, (yss.take k).flatten.length ≤ yss.flatten.length := fun k => by
    conv => rhs; rw [← List.take_append_drop k yss]
    rw [List.flatten_append, List.length_append]; omega
  clear hm hc
  go_enter Tryz.func39, Tryz.ntmps39
  go_wp2_with fail
  go_loop [3, 11] (fun t i => ∃ k : Nat, k ≤ yss.length ∧ i = .int .i64 k ∧ t = .int .i64 ((yss.take k).flatten.length : Nat)) (fun _ i => yss.length - (intOf i).toNat)
  case atStart => exact ⟨0, Nat.zero_le _, rfl, rfl⟩
  case round =>
    obtain ⟨k, hk, rfl, rfl⟩ := hrel
    have hlk := hle k
    by_cases hlt : k < yss.length
    · obtain ⟨g, o, rfl, -, hgs, hcell⟩ := Rd.at_ hrd (j := k) (by omega)
      have hu : us[k]? = some us[k] := List.getElem?_eq_getElem (by omega)
      have hxc : w.cell? ⟨g, o + k, none⟩ = some us[k] := hcell k _ hu
      obtain ⟨a2, c2, h2, hc2, hm2, -⟩ := id (hrows k _ _ hu (List.getElem?_eq_getElem hlt))
      have hlk1 := hle (k + 1)
      have hT : (yss.take (k + 1)).flatten.length = (yss.take k).flatten.length + yss[k].length := by
        rw [List.take_succ_eq_append_getElem hlt, List.flatten_append, List.length_append]; simp
      have HT := Lib.hid hT
      rw [hT] at hlk1
      rw [h2] at hxc
      clear hcell hu h2 hT hrows hle hrd
      generalize yss[k].length = m at *
      generalize (yss.take k).flatten.length = n at *
      go_wp2_with fail
      go_round
      case rel => exact ⟨k + 1, by omega, by go_num, by rw [HT.out]; go_num⟩
      case measure => simp [intOf]; omega
    · have hke : (yss.take k) = yss := List.take_of_length_le (by omega)
      rw [hke] at hlk ⊢
      generalize hfl : yss.flatten.length = n at *
      have HF := Lib.hid hfl
      clear hfl
      go_wp2_with fail
      refine (Grow_nil n w hlen).mono ?_
      rintro e w1 ⟨v1, rfl, hown, hg⟩
      clear hlk
      go_wp2_with fail
      go_loopw [6, 27] (fun t i wr => ∃ k : Nat, k ≤ yss.length ∧ i = .int .i64 k ∧ wr.ownsRow w.heap.size 9 1 t (yss.take k).flatten.length ((yss.take k).flatten.map Value.string) ∧ w.grownBy wr none) (fun _ i _ => yss.length - (intOf i).toNat)
      case atStart => exact ⟨0, Nat.zero_le _, rfl, hown, hg⟩
      case round =>
        clear hown hg hk hlt hke
        obtain ⟨k, hk, rfl, hown, hg⟩ := hrel
        by_cases hlt : k < yss.length
        · have hrdr := hrd.keep hg (by simp)
          obtain ⟨g, o, rfl, -, hgs, hcell⟩ := Rd.at_ hrdr (j := k) (by omega)
          have hu : us[k]? = some us[k] := List.getElem?_eq_getElem (by omega)
          have hxc : wr.cell? ⟨g, o + k, none⟩ = some us[k] := hcell k _ hu
          have hyr := (hrows k _ _ hu (List.getElem?_eq_getElem hlt)).keep hg (by simp)
          have hlk1 := hle (k + 1)
          have hT : (yss.take (k + 1)).flatten = (yss.take k).flatten ++ yss[k] := by
            rw [List.take_succ_eq_append_getElem hlt, List.flatten_append]; simp
          rw [hT, List.length_append] at hlk1
          have HT := Lib.hid hT
          obtain ⟨a2, c2, h2, hc2, hm2, -⟩ := id hyr
          rw [h2] at hxc hyr
          clear hcell hu h2 hT hrdr
          generalize yss[k] = y at *
          generalize (yss.take k).flatten = L at *
          have hgsz := hg.size
          go_wp2_with (at_builtin; refine appN rfl _ _ 23 9 rfl Tryz.underlying23 (.string ⟨#[]⟩) 1 16 infoStr rfl (by decide) hown hyr rfl rfl (by simp) (by intro u hu; obtain ⟨s, -, rfl⟩ := List.mem_map.1 hu; rfl) hgsz (by omega) (by unfold maxLen; omega) ?_)
          intro v2 w2 hown2 hg2 _ _
          have hgg := gr_trans' hg hg2 (fun b hb => own_base hown b hb)
          rw [← List.map_append] at hown2
          clear hown hg hg2 hyr hxc
          go_wp2_with fail
          go_roundw
          case rel => exact ⟨k + 1, by omega, by go_num, by rw [HT.out, List.length_append]; exact hown2, hgg⟩
          case measure => simp [intOf]; omega
        · have hke : (yss.take k) = yss := List.take_of_length_le (by omega)
          rw [hke, HF.out] at hown
          clear hke
          go_wp2_with fail
          go_ret
          exact ⟨_, rfl, by rw [HF.out]; exact hown, hg⟩
end Go.Proofs.YtoilgmdfbibniaaGreatDoor
