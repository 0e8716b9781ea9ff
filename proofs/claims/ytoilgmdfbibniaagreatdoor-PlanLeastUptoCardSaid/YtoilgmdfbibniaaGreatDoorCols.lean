/- bind: a schema's columns, by name. -/
import Derived.Test.YtoilgmdfbibniaaGreatDoorStrs
import Derived.Maps.OwnSet
import Derived.Maps.OwnOps
set_option linter.unusedSimpArgs false
set_option linter.unusedVariables false
set_option maxRecDepth 20000
namespace Go.Proofs.YtoilgmdfbibniaaGreatDoor
open Go Go.RowKit Go.WideShapes

theorem strKeyed : Maps.Keyed Tryz.prog 9 := Maps.string_keyed Tryz.underlying9

/-- how a column reads -/
def colElem : Value → Option (DataW Unit × List MemPlace)
  | .agg cs => match cs.toList with
    | [.bool m, .int .i64 i] => some (.agg [.lit (.bool m), .lit (.int .i64 i)], [])
    | _ => none
  | _ => none
def colD (m : Bool) (i : Int) : DataW Unit := .agg [.lit (.bool m), .lit (.int .i64 i)]
theorem colElem_mk (m : Bool) (i : Int) : colElem (.agg #[.bool m, .int .i64 i]) = some (colD m i, []) := rfl
theorem colElem_inv {v : Value} {z : DataW Unit × List MemPlace} (h : colElem v = some z) : ∃ m i, v = .agg #[.bool m, .int .i64 i] ∧ z.1 = colD m i := by
  unfold colElem at h
  split at h
  · rename_i cs
    split at h
    · rename_i m i hc
      cases h
      refine ⟨m, i, ?_, rfl⟩
      obtain ⟨l⟩ := cs
      simp only at hc
      subst hc
      rfl
    · cases h
  · cases h

/-- names laid into the map, by number -/
def putCols (m : Bool) : DataW Unit → List ByteArray → Nat → DataW Unit
  | D, [], _ => D
  | D, s :: l, i => putCols m (D.put (.string s.data.toList) (colD m (i : Int))) l (i + 1)
def colsF (ds ms : List ByteArray) : DataW Unit := putCols true (putCols false (.map []) ds 0) ms 0

abbrev ColMap (w : World) (b n : Nat) (D : DataW Unit) : Prop := w.ownsMap Tryz.prog 9 colElem b n D

set_option maxHeartbeats 1000000 in
theorem columns_any (F : Nat → Prop) (ds ms : List ByteArray) (vd vm : Value) (w : World) (hds : ds.length ≤ 6) (hms : ms.length ≤ 4) (hsd : ∀ s ∈ ds, s.size ≤ maxLen) (hsm : ∀ s ∈ ms, s.size ≤ maxLen) (hd : StrsR F w vd ds) (hm : StrsR F w vm ms) :
    Calls Tryz.prog 34 #[.agg #[vd, vm]] w fun e w' => ∃ b, e = .returned (.map (some b)) ∧ w.heap.size ≤ b ∧ ColMap w' b (ds.length + ms.length) (colsF ds ms) ∧ w.grownBy w' none := by
  have hd' := hd
  have hm' := hm
  obtain ⟨ad, cd, rfl, hcd, hmd, -⟩ := hd'
  obtain ⟨am, cm, rfl, hcm, hmm, -⟩ := hm'
  clear hmd hmm
  have HC : Hid (colsF ds ms = putCols true (putCols false (.map []) (ds.drop 0) 0) ms 0) := rfl
  generalize colsF ds ms = R at *
  have hmk := @run_makeMap Tryz.prog
  go_enter Tryz.func34, Tryz.ntmps34
  go_wp2_with fail
  have hg1 : w.grownBy ((w.alloc (.cells #[.slice ad ds.length cd, .slice am ms.length cm] 54)).alloc (.map #[] 0)) none := gr_alloc (gr_alloc (gr_refl _ _) _) _
  have hmade := World.ownsMap_made (w.alloc (.cells #[.slice ad ds.length cd, .slice am ms.length cm] 54)) Tryz.prog 9 colElem
  have hsz1 : (w.alloc (.cells #[.slice ad ds.length cd, .slice am ms.length cm] 54)).heap.size = w.heap.size + 1 := by simp
  rw [hsz1] at hmade
  clear hsz1
  have hb0 := heap_old _ (.map #[] 0) _ _ (heap_new w (.cells #[.slice ad ds.length cd, .slice am ms.length cm] 54) _ rfl)
  generalize ((w.alloc _).alloc _) = W at *
  clear hmk
  go_loopw [23] (fun i wr => ∃ (k : Nat) (D : DataW Unit), k ≤ ds.length ∧ i = .int .i64 k ∧ Hid (R = putCols true (putCols false D (ds.drop k) k) ms 0) ∧ ColMap wr (w.heap.size + 1) k D ∧ w.grownBy wr none ∧ wr.heap[w.heap.size]? = some (.cells #[.slice ad ds.length cd, .slice am ms.length cm] 54 (0, 0))) (fun i _ => ds.length - (intOf i).toNat)
  case atStart => exact ⟨0, _, Nat.zero_le _, rfl, HC, hmade, hg1, hb0⟩
  case round =>
    clear hmade hg1 hb0 HC
    obtain ⟨k, D, hk, rfl, HC, hown, hg, hb⟩ := hrel
    by_cases hlt : k < ds.length
    · have hsr := hd.keep hg (by simp)
      obtain ⟨g, o, rfl, -, hgs, hcell⟩ := Rd.at_ hsr (j := k) (by simpa using hlt)
      have hxc : wr.cell? ⟨g, o + k, none⟩ = some (.string ds[k]) := hcell k _ (by simp [hlt])
      have hkey := WideMaps.keyOf_string_mk (P := Tryz.prog) Tryz.underlying9 (hsd _ (List.getElem_mem hlt))
      have HD : Hid (R = putCols true (putCols false (D.put (.string ds[k].data.toList) (colD false (k : Int))) (ds.drop (k + 1)) (k + 1)) ms 0) := by
        unfold Hid; rw [HC.out, List.drop_eq_getElem_cons hlt]; rfl
      clear HC hcell hsr
      generalize ds[k] = x at *
      go_wp2_with (at_mapUpdate; refine wpList_mapUpdate_own _ rfl _ _ _ 77 rfl 9 136 strKeyed Tryz.underlying77 colElem _ k D rfl hown (by unfold maxLen; omega) _ _ _ rfl rfl hkey _ [] (colElem_mk false k) ?_)
      intro w1 hown1 hg1
      have hgg := gr_trans' hg hg1 (fun b e => by cases e; omega)
      have hb1 := gr_blk hg1 hb (by simp)
      clear hown hg1 hkey
      go_wp2_with fail
      go_roundw
      case rel => exact ⟨k + 1, _, by omega, by go_num, HD, hown1, hgg, hb1⟩
      case measure => simp [intOf]; omega
    · have hke : k = ds.length := by omega
      have HC2 : Hid (R = putCols true D (ms.drop 0) 0) := by unfold Hid; rw [HC.out, List.drop_eq_nil_of_le (by omega)]; rfl
      have q1 := blk_cell (l := [_, _]) hb 1 _ rfl
      clear HC
      have hgs := blk_lt hb
      go_wp2_with fail
      obtain ⟨wo, hwo⟩ : ∃ wo : World, wo = wr := ⟨_, rfl⟩
      have hown0 : ColMap wr (w.heap.size + 1) (ds.length + 0) D := by rw [← hke]; exact hown
      clear hown hwo wo q1
      go_loopw [36] (fun i wr => ∃ (k : Nat) (D : DataW Unit), k ≤ ms.length ∧ i = .int .i64 k ∧ Hid (R = putCols true D (ms.drop k) k) ∧ ColMap wr (w.heap.size + 1) (ds.length + k) D ∧ w.grownBy wr none) (fun i _ => ms.length - (intOf i).toNat)
      case atStart => exact ⟨0, _, Nat.zero_le _, rfl, HC2, hown0, hg⟩
      case round =>
        clear HC2 hown0 hg hb hgs hk hlt hke
        rename_i k0 D0 _ _ _ _
        obtain ⟨k, D, hk, rfl, HC, hown, hg⟩ := hrel
        by_cases hlt : k < ms.length
        · have hsr := hm.keep hg (by simp)
          obtain ⟨g, o, rfl, -, hgs, hcell⟩ := Rd.at_ hsr (j := k) (by simpa using hlt)
          have hxc : wr.cell? ⟨g, o + k, none⟩ = some (.string ms[k]) := hcell k _ (by simp [hlt])
          have hkey := WideMaps.keyOf_string_mk (P := Tryz.prog) Tryz.underlying9 (hsm _ (List.getElem_mem hlt))
          have HD : Hid (R = putCols true (D.put (.string ms[k].data.toList) (colD true (k : Int))) (ms.drop (k + 1)) (k + 1)) := by
            unfold Hid; rw [HC.out, List.drop_eq_getElem_cons hlt]; rfl
          clear HC hcell hsr
          generalize ms[k] = x at *
          go_wp2_with (at_mapUpdate; refine wpList_mapUpdate_own _ rfl _ _ _ 77 rfl 9 136 strKeyed Tryz.underlying77 colElem _ _ D rfl hown (by unfold maxLen; omega) _ _ _ rfl rfl hkey _ [] (colElem_mk true k) ?_)
          intro w1 hown1 hg1
          have hgg := gr_trans' hg hg1 (fun b e => by cases e; omega)
          clear hown hg1 hkey
          go_wp2_with fail
          go_roundw
          case rel => exact ⟨k + 1, _, by omega, by go_num, HD, hown1, hgg⟩
          case measure => simp [intOf]; omega
        · have HD : Hid (R = D) := by unfold Hid; rw [HC.out, List.drop_eq_nil_of_le (by omega)]; rfl
          have hke : k = ms.length := by omega
          go_wp2_with fail
          go_ret
          exact ⟨w.heap.size + 1, rfl, by omega, by rw [HD.out, ← hke]; exact hown, hg⟩
end Go.Proofs.YtoilgmdfbibniaaGreatDoor
