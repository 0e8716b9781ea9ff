/- slices of texts: Index, Contains. -/
import Derived.Test.YtoilgmdfbibniaaGreatDoorLex
set_option linter.unusedSimpArgs false
set_option linter.unusedVariables false
set_option maxRecDepth 20000
namespace Go.Proofs.YtoilgmdfbibniaaGreatDoor
open Go Go.RowKit

/-- the place of a text, or -1 -/
def idxFrom (x : ByteArray) : List ByteArray → Nat → Int
  | [], _ => -1
  | y :: l, k => if x = y then (k : Int) else idxFrom x l (k + 1)
def idxS (l : List ByteArray) (x : ByteArray) : Int := idxFrom x l 0

theorem Index_any (F : Nat → Prop) (l : List ByteArray) (x : ByteArray) (v : Value) (w : World) (h : StrsR F w v l) :
    Calls Tryz.prog 131 #[v, .string x] w fun e w' => e = .returned (.int .i64 (idxS l x)) ∧ w = w' := by
  have h' := h
  obtain ⟨a, c, rfl, hc, hm, -⟩ := h'
  have hm' : l.length ≤ 9223372036854775807 := by unfold maxLen at hm; omega
  clear hm hc
  generalize hr : idxS l x = r
  have HR : Hid (idxFrom x l 0 = r) := hr
  clear hr
  go_enter Tryz.func131, Tryz.ntmps131
  go_wp2
  go_loop [8] (fun i => ∃ k : Nat, k ≤ l.length ∧ i = .int .i64 k ∧ Hid (idxFrom x (l.drop k) k = r)) (fun i => l.length - (intOf i).toNat)
  case atStart => exact ⟨0, Nat.zero_le _, rfl, HR⟩
  case round =>
    obtain ⟨k, hk, rfl, hrk⟩ := hrel
    by_cases hlt : k < l.length
    · obtain ⟨g, o, rfl, -, hgs, hcell⟩ := Rd.at_ h (j := k) (by simpa using hlt)
      have hx : w.cell? ⟨g, o + k, none⟩ = some (.string l[k]) := hcell k _ (by simp [hlt])
      have HT : Hid (idxFrom x (l.drop k) k = if x = l[k] then (k : Int) else idxFrom x (l.drop (k + 1)) (k + 1)) := by
        unfold Hid; rw [List.drop_eq_getElem_cons hlt]; rfl
      generalize l[k] = y at hx HT
      clear hcell h
      by_cases hxy : x = y
      · have HU : Hid (r = (k : Int)) := by unfold Hid; rw [← hrk.out, HT.out, if_pos hxy]
        subst hxy
        go_wp2
        go_ret
        exact ⟨by rw [HU.out]; rfl, rfl⟩
      · have HU : Hid (idxFrom x (l.drop (k + 1)) (k + 1) = r) := by unfold Hid; rw [← hrk.out, HT.out, if_neg hxy]
        have hb := streq_no hxy
        clear hxy HT hrk
        go_wp2
        go_round
        case rel => exact ⟨k + 1, by omega, by go_num, HU⟩
        case measure => simp [intOf]; omega
    · have HU : Hid (r = -1) := by unfold Hid; rw [← hrk.out, List.drop_eq_nil_of_le (by omega)]; rfl
      go_wp2
      go_ret
      exact ⟨by rw [HU.out]; rfl, rfl⟩

def hasS (l : List ByteArray) (x : ByteArray) : Bool := decide (0 ≤ idxS l x)
theorem Contains_any (F : Nat → Prop) (l : List ByteArray) (x : ByteArray) (v : Value) (w : World) (h : StrsR F w v l) :
    Calls Tryz.prog 91 #[v, .string x] w fun e w' => e = .returned (.bool (hasS l x)) ∧ w = w' := by
  have H := Index_any F l x v w h
  obtain ⟨a, c, rfl, hc, hm, -⟩ := h
  have HS : Hid (hasS l x = decide (0 ≤ idxS l x)) := rfl
  generalize hasS l x = r at *
  generalize idxS l x = i at *
  go_enter Tryz.func91, Tryz.ntmps91
  go_wp2_with fail
  refine H.mono ?_
  rintro e w' ⟨rfl, rfl⟩
  go_wp2
  go_ret
  exact ⟨by rw [HS.out]; rfl, rfl⟩
end Go.Proofs.YtoilgmdfbibniaaGreatDoor
