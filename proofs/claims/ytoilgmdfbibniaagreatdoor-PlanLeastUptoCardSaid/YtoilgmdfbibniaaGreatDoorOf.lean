/- bind: a column of a kind, an item's pick, dimensions' names. -/
import Derived.Test.YtoilgmdfbibniaaGreatDoorCols
set_option linter.unusedSimpArgs false
set_option linter.unusedVariables false
set_option maxRecDepth 20000
namespace Go.Proofs.YtoilgmdfbibniaaGreatDoor
open Go Go.RowKit Go.WideShapes

def keyS (s : ByteArray) : Lit := .string s.data.toList
def colOf : DataW Unit → Bool × Int
  | .agg [.lit (.bool m), .lit (.int .i64 i)] => (m, i)
  | _ => (false, 0)
def colAt (D : DataW Unit) (s : ByteArray) : Bool × Int := colOf (D.atKey (keyS s) (colD false 0))
def ofF (D : DataW Unit) (s : ByteArray) (meas : Bool) : Int × Int :=
  if Maps.has D (keyS s) = true then (if (colAt D s).1 = meas then ((colAt D s).2, 0) else (0, 43)) else (0, 42)

theorem zeroCol (w : World) : (zeroValue 136).run Tryz.prog w = .ok (.agg #[.bool false, .int .i64 0]) w := by kernel_rfl

set_option maxHeartbeats 1000000 in
theorem of_bind (D : DataW Unit) (b n : Nat) (s : ByteArray) (meas : Bool) (w : World) (hs : s.size ≤ maxLen) (h : ColMap w b n D) :
    Calls Tryz.prog 78 #[.map (some b), .string s, .bool meas] w fun e w' => e = .returned (.tuple #[.int .i64 (ofF D s meas).1, .int .i64 (ofF D s meas).2]) ∧ w.grownBy w' none := by
  have hkey := WideMaps.keyOf_string_mk (P := Tryz.prog) Tryz.underlying9 hs
  have HO : Hid (ofF D s meas = if Maps.has D (keyS s) = true then (if (colAt D s).1 = meas then ((colAt D s).2, 0) else (0, 43)) else (0, 42)) := rfl
  generalize ofF D s meas = r at *
  have HA : Hid (colAt D s = colOf (D.atKey (keyS s) (colD false 0))) := rfl
  generalize colAt D s = c at *
  go_enter Tryz.func78, Tryz.ntmps78
  go_wp2_with (at_lookup; refine wpList_lookup_own_ok _ rfl _ _ 78 rfl 9 136 strKeyed Tryz.underlying78 colElem (zeroCol _) (colD false 0) [] (colElem_mk false 0) _ _ D rfl h _ _ rfl hkey ?_)
  intro v ps hv
  obtain ⟨m, i, rfl, hd⟩ := colElem_inv hv
  have HC : Hid (c = (m, i)) := by unfold Hid; rw [HA.out]; show colOf (D.atKey (.string s.data.toList) (colD false 0)) = _; rw [show D.atKey (.string s.data.toList) (colD false 0) = colD m i from hd]; rfl
  clear hv hd HA hkey
  unfold keyS at HO
  generalize Maps.has D (.string s.data.toList) = hs at *
  cases hs
  · have HR : Hid (r = (0, 42)) := by unfold Hid; rw [HO.out]; rfl
    clear HO HC
    go_wp2_with fail
    go_ret2
    exact ⟨by rw [HR.out]; rfl, gr_alloc (gr_refl _ _) _⟩
  · by_cases hm : m = meas
    · have HR : Hid (r = (i, 0)) := by unfold Hid; rw [HO.out, HC.out, if_pos rfl, if_pos hm]
      subst hm
      clear HO HC
      cases m
      all_goals
       go_wp2_with fail
       go_ret2
       exact ⟨by rw [HR.out]; rfl, gr_alloc (gr_refl _ _) _⟩
    · have HR : Hid (r = (0, 43)) := by unfold Hid; rw [HO.out, HC.out, if_pos rfl, if_neg hm]
      clear HO HC
      cases m <;> cases meas <;> first | exact absurd rfl hm | skip
      all_goals
       clear hm
       go_wp2_with fail
       go_ret2
       exact ⟨by rw [HR.out]; rfl, gr_alloc (gr_refl _ _) _⟩

/-- an item's pick, and what is wrong with it -/
def pickF (D : DataW Unit) (k : Int) (s : ByteArray) : Int × Int × Int :=
  if k = 2 then (2, 0, 0) else if (ofF D s (decide (k ≠ 1 ∧ k ≠ 6))).2 = 0 then (k, (ofF D s (decide (k ≠ 1 ∧ k ≠ 6))).1, 0) else (0, 0, (ofF D s (decide (k ≠ 1 ∧ k ≠ 6))).2)

set_option maxHeartbeats 2000000 in
theorem item_bind (D : DataW Unit) (b n : Nat) (k : Int) (s : ByteArray) (w : World) (hs : s.size ≤ maxLen) (h : ColMap w b n D) :
    Calls Tryz.prog 35 #[.map (some b), .agg #[.int .i64 k, .string s]] w fun e w' => e = .returned (.tuple #[.agg #[.int .i64 (pickF D k s).1, .int .i64 (pickF D k s).2.1], .int .i64 (pickF D k s).2.2]) ∧ w.grownBy w' none := by
  have HP : Hid (pickF D k s = if k = 2 then (2, 0, 0) else if (ofF D s (decide (k ≠ 1 ∧ k ≠ 6))).2 = 0 then (k, (ofF D s (decide (k ≠ 1 ∧ k ≠ 6))).1, 0) else (0, 0, (ofF D s (decide (k ≠ 1 ∧ k ≠ 6))).2)) := rfl
  generalize pickF D k s = r at *
  have hg1 : w.grownBy ((w.alloc (.cells #[.int .i64 k, .string s] 81)).alloc (.cells #[.int .i64 0, .int .i64 0] 83)) none := gr_alloc (gr_alloc (gr_refl _ _) _) _
  have b0 := heap_old _ (.cells #[.int .i64 0, .int .i64 0] 83) _ _ (heap_new w (.cells #[.int .i64 k, .string s] 81) _ rfl)
  have b1 := heap_new (w.alloc (.cells #[.int .i64 k, .string s] 81)) (.cells #[.int .i64 0, .int .i64 0] 83) (w.heap.size + 1) (by simp)
  have h1 := h.kept (row := none) hg1 (by simp)
  clear h
  have HO := fun mm W (hg : ColMap W b n D) => of_bind D b n s mm W hs hg
  by_cases h2 : k = 2
  · have HR : Hid (r = (2, 0, 0)) := by unfold Hid; rw [HP.out, if_pos h2]
    subst h2
    go_enter Tryz.func35, Tryz.ntmps35
    go_wp2_with fail
    exact bodyPost_ret (v := .tuple #[.agg #[.int .i64 2, .int .i64 0], .int .i64 0]) (by simp [results, Tryz.results35, go_sem]) rfl ⟨by rw [HR.out], gr_alloc (gr_alloc (gr_refl _ _) _) _⟩
  · have HP2 : Hid (r = if (ofF D s (decide (k ≠ 1 ∧ k ≠ 6))).2 = 0 then (k, (ofF D s (decide (k ≠ 1 ∧ k ≠ 6))).1, 0) else (0, 0, (ofF D s (decide (k ≠ 1 ∧ k ≠ 6))).2)) := by unfold Hid; rw [HP.out, if_neg h2]
    clear HP
    have hk : ∃ mm, decide (k ≠ 1 ∧ k ≠ 6) = mm ∧ (k = 1 ∧ mm = false ∨ k ≠ 1 ∧ k = 6 ∧ mm = false ∨ k ≠ 1 ∧ k ≠ 6 ∧ mm = true) := by
      refine ⟨_, rfl, ?_⟩
      by_cases e1 : k = 1
      · exact .inl ⟨e1, by simp [e1]⟩
      · by_cases e6 : k = 6
        · exact .inr (.inl ⟨e1, e6, by simp [e6]⟩)
        · exact .inr (.inr ⟨e1, e6, by simp [e1, e6]⟩)
    obtain ⟨mm, hmm, hkm⟩ := hk
    rw [hmm] at HP2
    clear hmm
    have HO1 := HO mm _ h1
    generalize ofF D s mm = f at *
    obtain ⟨f1, f2⟩ := f
    simp only at HP2 HO1
    have h2' : (k == 2) = false := by simpa using h2
    have hkb : ∃ b1 b6 : Bool, (k != 1) = b1 ∧ (k != 6) = b6 ∧ (b1 = false ∧ mm = false ∨ b1 = true ∧ b6 = false ∧ mm = false ∨ b1 = true ∧ b6 = true ∧ mm = true) := by
      rcases hkm with ⟨rfl, rfl⟩ | ⟨h3, rfl, rfl⟩ | ⟨h3, h6, rfl⟩
      · exact ⟨_, _, rfl, rfl, .inl ⟨by simp, rfl⟩⟩
      · exact ⟨_, _, rfl, rfl, .inr (.inl ⟨by simp, by simp, rfl⟩)⟩
      · exact ⟨_, _, rfl, rfl, .inr (.inr ⟨by simpa using h3, by simpa using h6, rfl⟩)⟩
    clear hkm h2
    obtain ⟨b1', b6', h3, h6, ⟨rfl, rfl⟩ | ⟨rfl, rfl, rfl⟩ | ⟨rfl, rfl, rfl⟩⟩ := hkb
    all_goals
      go_enter Tryz.func35, Tryz.ntmps35
      go_wp2_with fail
      generalize ((w.alloc _).alloc _) = W at *
      refine HO1.mono ?_
      rintro e w2 ⟨rfl, hg2⟩
      have hg := gr_trans hg1 hg2
      have b12 := gr_blk hg2 b1 (by simp)
      have b02 := gr_blk hg2 b0 (by simp)
      have q0 := blk_cell (l := [_, _]) b02 0 _ rfl
      have hgs := blk_lt b02
      clear HO1 HO h1 hg1 hg2 b0 b1
      by_cases hf : f2 = 0
      · have HR : Hid (r = (k, f1, 0)) := by unfold Hid; rw [HP2.out, if_pos hf]
        subst hf
        clear HP2
        have p0 := blk_cell (l := [_, _]) b12 0 _ rfl
        have p1 := blk_cell (l := [_, _]) b12 1 _ rfl
        have pf := blk_free b12
        go_wp2_with fail
        refine bodyPost_ret (v := .tuple #[.agg #[.int .i64 k, .int .i64 f1], .int .i64 0]) ?_ rfl ⟨?_, ?_⟩
        · have hbF := blk_set (blk_set b12 0 (.int .i64 k)) 1 (.int .i64 f1)
          generalize (World.setCell _ _ _) = W at *
          have c0 := blk_cell (l := [_, _]) hbF 0 _ rfl
          have c1 := blk_cell (l := [_, _]) hbF 1 _ rfl
          simp [results, Tryz.results35, go_sem, c0, c1]
        · rw [HR.out]
        · exact gr_set (p := ⟨w.heap.size + 1, 1, none⟩) (gr_set (p := ⟨w.heap.size + 1, 0, none⟩) hg (by simp) _) (by simp) _
      · have HR : Hid (r = (0, 0, f2)) := by unfold Hid; rw [HP2.out, if_neg hf]
        have hf' : (f2 != 0) = true := by simpa using hf
        clear HP2 hf
        have p0 := blk_cell (l := [_, _]) b12 0 _ rfl
        have p1 := blk_cell (l := [_, _]) b12 1 _ rfl
        have pf := blk_free b12
        go_wp2_with fail
        refine bodyPost_ret (v := .tuple #[.agg #[.int .i64 0, .int .i64 0], .int .i64 f2]) ?_ rfl ⟨?_, ?_⟩
        · have hbF := blk_set (blk_set b12 0 (.int .i64 0)) 1 (.int .i64 0)
          generalize (World.setCell _ _ _) = W at *
          have c0 := blk_cell (l := [_, _]) hbF 0 _ rfl
          have c1 := blk_cell (l := [_, _]) hbF 1 _ rfl
          simp [results, Tryz.results35, go_sem, c0, c1]
        · rw [HR.out]
        · exact gr_set (p := ⟨w.heap.size + 1, 1, none⟩) (gr_set (p := ⟨w.heap.size + 1, 0, none⟩) hg (by simp) _) (by simp) _

/-- the first that is no dimension tells -/
def dimsF (D : DataW Unit) : List ByteArray → Int
  | [] => 0
  | s :: l => if (ofF D s false).2 = 0 then dimsF D l else (ofF D s false).2

set_option maxHeartbeats 1000000 in
theorem dims_bind (F : Nat → Prop) (D : DataW Unit) (b n : Nat) (l : List ByteArray) (v : Value) (w : World) (hs : ∀ s ∈ l, s.size ≤ maxLen) (h : ColMap w b n D) (hv : StrsR F w v l) :
    Calls Tryz.prog 38 #[.map (some b), v] w fun e w' => e = .returned (.int .i64 (dimsF D l)) ∧ w.grownBy w' none := by
  obtain ⟨a, c, rfl, hc, hm, -⟩ := id hv
  have hm' : l.length ≤ 9223372036854775807 := by unfold maxLen at hm; omega
  clear hm hc
  generalize hr : dimsF D l = r
  have HR : Hid (dimsF D (l.drop 0) = r) := hr
  clear hr
  go_enter Tryz.func38, Tryz.ntmps38
  go_wp2_with fail
  go_loopw [11] (fun i wr => ∃ k : Nat, k ≤ l.length ∧ i = .int .i64 k ∧ Hid (dimsF D (l.drop k) = r) ∧ w.grownBy wr none) (fun i _ => l.length - (intOf i).toNat)
  case atStart => exact ⟨0, Nat.zero_le _, rfl, HR, gr_refl _ _⟩
  case round =>
    obtain ⟨k, hk, rfl, hrk, hg⟩ := hrel
    have hsr := hv.keep hg (by simp)
    by_cases hlt : k < l.length
    · obtain ⟨g, o, rfl, -, hgs, hcell⟩ := Rd.at_ hsr (j := k) (by simpa using hlt)
      have hxc : wr.cell? ⟨g, o + k, none⟩ = some (.string l[k]) := hcell k _ (by simp [hlt])
      have HT : Hid (dimsF D (l.drop k) = if (ofF D l[k] false).2 = 0 then dimsF D (l.drop (k + 1)) else (ofF D l[k] false).2) := by
        unfold Hid; rw [List.drop_eq_getElem_cons hlt]; rfl
      have HI := of_bind D b n l[k] false wr (hs _ (List.getElem_mem hlt)) (h.kept (row := none) hg (by simp))
      clear hcell hsr
      generalize ofF D l[k] false = f at *
      obtain ⟨f1, f2⟩ := f
      simp only at HT HI
      generalize l[k] = y at hxc HI
      go_wp2_with fail
      refine HI.mono ?_
      rintro e w2 ⟨rfl, hg2⟩
      have hgg := gr_trans hg hg2
      clear HI hg2 hg
      by_cases hf : f2 = 0
      · have HU : Hid (dimsF D (l.drop (k + 1)) = r) := by unfold Hid; rw [← hrk.out, HT.out, if_pos hf]
        subst hf
        clear HT hrk
        go_wp2_with fail
        go_roundw
        case rel => exact ⟨k + 1, by omega, by go_num, HU, hgg⟩
        case measure => simp [intOf]; omega
      · have HU : Hid (r = f2) := by unfold Hid; rw [← hrk.out, HT.out, if_neg hf]
        have hf' : (f2 != 0) = true := by simpa using hf
        clear HT hrk hf
        go_wp2_with fail
        go_ret
        exact ⟨by rw [HU.out]; rfl, hgg⟩
    · have HU : Hid (r = 0) := by unfold Hid; rw [← hrk.out, List.drop_eq_nil_of_le (by omega)]; rfl
      clear hrk hsr
      go_wp2_with fail
      go_ret
      exact ⟨by rw [HU.out]; rfl, hg⟩
end Go.Proofs.YtoilgmdfbibniaaGreatDoor
