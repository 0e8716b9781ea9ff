/- slices.IndexFunc, slices.ContainsFunc over texts, by what the closure answers. -/
import Derived.Test.YtoilgmdfbibniaaGreatDoorCat
set_option linter.unusedSimpArgs false
set_option linter.unusedVariables false
set_option maxRecDepth 20000
namespace Go.Proofs.YtoilgmdfbibniaaGreatDoor
open Go Go.RowKit

/-- the place of the first that is meant, or -1 -/
def idxP {α : Type} (p : α → Bool) : List α → Nat → Int
  | [], _ => -1
  | y :: l, k => if p y = true then (k : Int) else idxP p l (k + 1)
theorem idxP_any {α : Type} (p : α → Bool) : ∀ (l : List α) (k : Nat), decide (0 ≤ idxP p l k) = l.any p := by
  intro l
  induction l with
  | nil => intro k; rfl
  | cons y l ih =>
    intro k
    rw [idxP, List.any_cons]
    cases h : p y
    · simpa using ih (k + 1)
    · simp

set_option maxHeartbeats 1000000 in
theorem IndexFunc_S0 (m : FuncId)  (hcf : ∀ args w, (callFunc m args).run Tryz.prog w = .ok (.enter m args) w) (pb : ByteArray → Bool) {F : Nat → Prop} {sv : Value} {l : List ByteArray} {w : World} (hs : StrsR F w sv l)
    (HC : ∀ W s, w.grownBy W none → s ∈ l → Calls Tryz.prog m #[.string s] W fun e w' => e = .returned (.bool (pb s)) ∧ W.grownBy w' none) :
    Calls Tryz.prog 120 #[sv, .func (.func m) #[] #[]] w fun e w' => e = .returned (.int .i64 (idxP pb l 0)) ∧ w.grownBy w' none := by
  obtain ⟨a, c, rfl, hc, hm, -⟩ := id hs
  have hm' : l.length ≤ 9223372036854775807 := by unfold maxLen at hm; omega
  clear hm hc
  generalize hr : idxP pb l 0 = r
  have HR : Hid (idxP pb (l.drop 0) 0 = r) := hr
  clear hr
  go_enter Tryz.func120, Tryz.ntmps120
  go_wp2_with fail
  go_loopw [8] (fun i wr => ∃ k : Nat, k ≤ l.length ∧ i = .int .i64 k ∧ Hid (idxP pb (l.drop k) k = r) ∧ w.grownBy wr none) (fun i _ => l.length - (intOf i).toNat)
  case atStart => exact ⟨0, Nat.zero_le _, rfl, HR, gr_refl _ _⟩
  case round =>
    obtain ⟨k, hk, rfl, hrk, hg⟩ := hrel
    have hsr := hs.keep hg (by simp)
    by_cases hlt : k < l.length
    · obtain ⟨g, o, rfl, -, hgs, hcell⟩ := Rd.at_ hsr (j := k) (by simpa using hlt)
      have hxc : wr.cell? ⟨g, o + k, none⟩ = some (.string l[k]) := hcell k _ (by simp [hlt])
      have HT : Hid (idxP pb (l.drop k) k = if pb l[k] = true then (k : Int) else idxP pb (l.drop (k + 1)) (k + 1)) := by
        unfold Hid; rw [List.drop_eq_getElem_cons hlt]; rfl
      have HI := HC wr l[k] hg (List.getElem_mem hlt)
      clear hcell hsr hs HC
      generalize pb l[k] = b at *
      generalize l[k] = y at hxc HI
      go_wp2_with fail
      refine HI.mono ?_
      rintro e w2 ⟨rfl, hg2⟩
      have hgg := gr_trans hg hg2
      clear HI
      cases b
      · have HU : Hid (idxP pb (l.drop (k + 1)) (k + 1) = r) := by unfold Hid; rw [← hrk.out, HT.out, if_neg (by simp)]
        clear HT hrk
        go_wp2_with fail
        go_roundw
        case rel => exact ⟨k + 1, by omega, by go_num, HU, hgg⟩
        case measure => simp [intOf]; omega
      · have HU : Hid (r = (k : Int)) := by unfold Hid; rw [← hrk.out, HT.out, if_pos rfl]
        clear HT hrk
        go_wp2_with fail
        go_ret
        exact ⟨by rw [HU.out]; rfl, hgg⟩
    · have HU : Hid (r = -1) := by unfold Hid; rw [← hrk.out, List.drop_eq_nil_of_le (by omega)]; rfl
      clear hrk hsr hs
      go_wp2_with fail
      go_ret
      exact ⟨by rw [HU.out]; rfl, hg⟩

theorem ContainsFunc_S0 (m : FuncId)  (hcf : ∀ args w, (callFunc m args).run Tryz.prog w = .ok (.enter m args) w) (pb : ByteArray → Bool) {F : Nat → Prop} {sv : Value} {l : List ByteArray} {w : World} (hs : StrsR F w sv l)
    (HC : ∀ W s, w.grownBy W none → s ∈ l → Calls Tryz.prog m #[.string s] W fun e w' => e = .returned (.bool (pb s)) ∧ W.grownBy w' none) :
    Calls Tryz.prog 70 #[sv, .func (.func m) #[] #[]] w fun e w' => e = .returned (.bool (l.any pb)) ∧ w.grownBy w' none := by
  have HI := IndexFunc_S0 m  hcf pb hs HC
  have HA : Hid (decide (0 ≤ idxP pb l 0) = l.any pb) := idxP_any pb l 0
  obtain ⟨a, c, rfl, hc, hm, -⟩ := id hs
  clear hs HC
  generalize idxP pb l 0 = i at *
  generalize l.any pb = r at *
  go_enter Tryz.func70, Tryz.ntmps70
  go_wp2_with fail
  refine HI.mono ?_
  rintro e w2 ⟨rfl, hg2⟩
  clear HI
  go_wp2_with fail
  go_ret
  exact ⟨by rw [← HA.out]; rfl, hg2⟩
set_option maxHeartbeats 1000000 in
theorem IndexFunc_S1 (m : FuncId) (cp : Value) (hcf : ∀ args w, (callFunc m args).run Tryz.prog w = .ok (.enter m args) w) (pb : ByteArray → Bool) {F : Nat → Prop} {sv : Value} {l : List ByteArray} {w : World} (hs : StrsR F w sv l)
    (HC : ∀ W s, w.grownBy W none → s ∈ l → Calls Tryz.prog m #[.string s, cp] W fun e w' => e = .returned (.bool (pb s)) ∧ W.grownBy w' none) :
    Calls Tryz.prog 120 #[sv, .func (.func m) #[] #[cp]] w fun e w' => e = .returned (.int .i64 (idxP pb l 0)) ∧ w.grownBy w' none := by
  obtain ⟨a, c, rfl, hc, hm, -⟩ := id hs
  have hm' : l.length ≤ 9223372036854775807 := by unfold maxLen at hm; omega
  clear hm hc
  generalize hr : idxP pb l 0 = r
  have HR : Hid (idxP pb (l.drop 0) 0 = r) := hr
  clear hr
  go_enter Tryz.func120, Tryz.ntmps120
  go_wp2_with fail
  go_loopw [8] (fun i wr => ∃ k : Nat, k ≤ l.length ∧ i = .int .i64 k ∧ Hid (idxP pb (l.drop k) k = r) ∧ w.grownBy wr none) (fun i _ => l.length - (intOf i).toNat)
  case atStart => exact ⟨0, Nat.zero_le _, rfl, HR, gr_refl _ _⟩
  case round =>
    obtain ⟨k, hk, rfl, hrk, hg⟩ := hrel
    have hsr := hs.keep hg (by simp)
    by_cases hlt : k < l.length
    · obtain ⟨g, o, rfl, -, hgs, hcell⟩ := Rd.at_ hsr (j := k) (by simpa using hlt)
      have hxc : wr.cell? ⟨g, o + k, none⟩ = some (.string l[k]) := hcell k _ (by simp [hlt])
      have HT : Hid (idxP pb (l.drop k) k = if pb l[k] = true then (k : Int) else idxP pb (l.drop (k + 1)) (k + 1)) := by
        unfold Hid; rw [List.drop_eq_getElem_cons hlt]; rfl
      have HI := HC wr l[k] hg (List.getElem_mem hlt)
      clear hcell hsr hs HC
      generalize pb l[k] = b at *
      generalize l[k] = y at hxc HI
      go_wp2_with fail
      refine HI.mono ?_
      rintro e w2 ⟨rfl, hg2⟩
      have hgg := gr_trans hg hg2
      clear HI
      cases b
      · have HU : Hid (idxP pb (l.drop (k + 1)) (k + 1) = r) := by unfold Hid; rw [← hrk.out, HT.out, if_neg (by simp)]
        clear HT hrk
        go_wp2_with fail
        go_roundw
        case rel => exact ⟨k + 1, by omega, by go_num, HU, hgg⟩
        case measure => simp [intOf]; omega
      · have HU : Hid (r = (k : Int)) := by unfold Hid; rw [← hrk.out, HT.out, if_pos rfl]
        clear HT hrk
        go_wp2_with fail
        go_ret
        exact ⟨by rw [HU.out]; rfl, hgg⟩
    · have HU : Hid (r = -1) := by unfold Hid; rw [← hrk.out, List.drop_eq_nil_of_le (by omega)]; rfl
      clear hrk hsr hs
      go_wp2_with fail
      go_ret
      exact ⟨by rw [HU.out]; rfl, hg⟩

theorem ContainsFunc_S1 (m : FuncId) (cp : Value) (hcf : ∀ args w, (callFunc m args).run Tryz.prog w = .ok (.enter m args) w) (pb : ByteArray → Bool) {F : Nat → Prop} {sv : Value} {l : List ByteArray} {w : World} (hs : StrsR F w sv l)
    (HC : ∀ W s, w.grownBy W none → s ∈ l → Calls Tryz.prog m #[.string s, cp] W fun e w' => e = .returned (.bool (pb s)) ∧ W.grownBy w' none) :
    Calls Tryz.prog 70 #[sv, .func (.func m) #[] #[cp]] w fun e w' => e = .returned (.bool (l.any pb)) ∧ w.grownBy w' none := by
  have HI := IndexFunc_S1 m cp hcf pb hs HC
  have HA : Hid (decide (0 ≤ idxP pb l 0) = l.any pb) := idxP_any pb l 0
  obtain ⟨a, c, rfl, hc, hm, -⟩ := id hs
  clear hs HC
  generalize idxP pb l 0 = i at *
  generalize l.any pb = r at *
  go_enter Tryz.func70, Tryz.ntmps70
  go_wp2_with fail
  refine HI.mono ?_
  rintro e w2 ⟨rfl, hg2⟩
  clear HI
  go_wp2_with fail
  go_ret
  exact ⟨by rw [← HA.out]; rfl, hg2⟩
end Go.Proofs.YtoilgmdfbibniaaGreatDoor
