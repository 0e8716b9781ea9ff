/- IsName. -/
import Derived.Test.YtoilgmdfbibniaaGreatDoorCaps
import Derived.Test.YtoilgmdfbibniaaGreatDoorLex
set_option linter.unusedSimpArgs false
set_option linter.unusedVariables false
set_option maxRecDepth 20000
namespace Go.Proofs.YtoilgmdfbibniaaGreatDoor
open Go Go.RowKit

theorem keyword_still (s : ByteArray) (w : World) (hs : s.size < 35184372088832) (hg : Glob w) : Calls Tryz.prog 60 #[.string s] w fun e w' => e = .returned (.bool (isKeyB s)) ∧ Below w.heap.size w w' := IsKeyword_any s w hs hg

theorem toList_empty (s : ByteArray) : s.toList.isEmpty = true ↔ s.size = 0 := by
  rw [ByteArray.toList_eq, List.isEmpty_iff_length_eq_zero]; rfl

def isNameB (s : ByteArray) : Bool := if s.size = 0 then false else if 32 < s.size then false else if kindOf (byteAt s 0) = 2 then (if isKeyB s = true then false else runTo s isWordB 0 == s.size) else false

theorem isWord_no (k : Nat) (h2 : k ≠ 2) (h3 : k ≠ 3) : isWordB k = false := by simp [isWordB, h2, h3]

set_option maxHeartbeats 1000000 in
theorem IsName_any (s : ByteArray) (w : World) (hs : s.size < 35184372088832) (hg : Glob w) : Calls Tryz.prog 72 #[.string s] w fun e w' => e = .returned (.bool (isNameB s)) ∧ Below w.heap.size w w' := by
  by_cases h0 : s.size = 0
  · have HS : Hid (isNameB s = false) := by simp [isNameB, h0, Hid]
    have he : s.toList.isEmpty = true := (toList_empty s).2 h0
    go_enter Tryz.func72, Tryz.ntmps72
    go_wp2_with fail
    go_ret
    exact ⟨by rw [HS.out]; rfl, Below.refl _ _⟩
  · have he : s.toList.isEmpty = false := by cases h : s.toList.isEmpty; rfl; exact absurd ((toList_empty s).1 h) h0
    by_cases h32 : 32 < s.size
    · have HS : Hid (isNameB s = false) := by simp [isNameB, h0, h32, Hid]
      go_enter Tryz.func72, Tryz.ntmps72
      go_wp2_with fail
      go_ret
      exact ⟨by rw [HS.out]; rfl, Below.refl _ _⟩
    · have hb : ((s[0]'(by omega)).toNat : Int) = (byteAt s 0 : Int) := by rw [byteAt_in s 0 (by omega)]
      have HK := kind_any (byteAt s 0) (byteAt_lt s 0) w hg.kinds
      by_cases hk2 : kindOf (byteAt s 0) = 2
      · have HI := keyword_still s w hs hg
        rw [hk2] at HK
        cases hky : isKeyB s
        · have HS : Hid (isNameB s = (runTo s isWordB 0 == s.size)) := by simp [isNameB, h0, h32, hk2, hky, Hid]
          rw [hky] at HI
          clear hky
          go_enter Tryz.func72, Tryz.ntmps72
          go_wp2_with fail
          refine HK.mono ?_
          rintro e w' ⟨rfl, rfl⟩
          go_wp2_with fail
          refine HI.mono ?_
          rintro e w1 ⟨rfl, hbl⟩
          have hkk := (hg.below hbl).kinds
          clear HK HI hb hg
          generalize hr : runTo s isWordB 0 = r at *
          have HR : Hid (runTo s isWordB 0 = r) := hr
          clear hr
          go_wp2_with fail
          go_loop [24] (fun x => ∃ k : Nat, k ≤ s.size ∧ x = .int .i64 k ∧ Hid (runTo s isWordB k = r)) (fun x => s.size - (intOf x).toNat)
          case atStart => exact ⟨0, by omega, rfl, HR⟩
          case round =>
            obtain ⟨k, hk', rfl, hrk⟩ := hrel
            by_cases hlt : k < s.size
            · have hb : ((s[k]'hlt).toNat : Int) = (byteAt s k : Int) := by rw [byteAt_in s k hlt]
              have HK := kind_any (byteAt s k) (byteAt_lt s k) w1 hkk
              have HT : Hid (runTo s isWordB k = if isWordB (kindOf (byteAt s k)) = true then runTo s isWordB (k + 1) else k) := by
                unfold Hid
                rw [runTo]
                by_cases hp : isWordB (kindOf (byteAt s k)) = true
                · rw [dif_pos ⟨hlt, hp⟩, if_pos hp]
                · rw [dif_neg (by simp [hp]), if_neg hp]
              clear hkk
              go_wp2_with fail
              refine HK.mono ?_
              rintro e w' ⟨rfl, rfl⟩
              clear HK hb
              generalize kindOf (byteAt s k) = kd at *
              by_cases h2 : kd = 2
              · subst h2
                have HU : Hid (runTo s isWordB (k + 1) = r) := by unfold Hid; rw [← hrk.out, HT.out]; rfl
                clear HT hrk
                go_wp2_with fail
                go_round
                case rel => exact ⟨k + 1, by omega, by go_num, HU⟩
                case measure => simp [intOf]; omega
              · by_cases h3 : kd = 3
                · subst h3
                  have HU : Hid (runTo s isWordB (k + 1) = r) := by unfold Hid; rw [← hrk.out, HT.out]; rfl
                  clear HT hrk
                  go_wp2_with fail
                  go_round
                  case rel => exact ⟨k + 1, by omega, by go_num, HU⟩
                  case measure => simp [intOf]; omega
                · have HU : Hid (isNameB s = false) := by
                    unfold Hid
                    rw [HS.out, ← hrk.out, HT.out, isWord_no kd h2 h3]
                    simp; omega
                  have e2 : ((kd : Int) != 2) = true := by simp; omega
                  have e3 : ((kd : Int) != 3) = true := by simp; omega
                  clear HT hrk HS
                  go_wp2_with fail
                  go_ret
                  exact ⟨by rw [HU.out]; rfl, hbl⟩
            · have HU : Hid (isNameB s = true) := by
                unfold Hid
                rw [HS.out, ← hrk.out, runTo, dif_neg (by omega)]
                simp; omega
              clear HS hrk hkk
              go_wp2_with fail
              go_ret
              exact ⟨by rw [HU.out]; rfl, hbl⟩
        · have HS : Hid (isNameB s = false) := by simp [isNameB, h0, h32, hk2, hky, Hid]
          rw [hky] at HI
          clear hky
          go_enter Tryz.func72, Tryz.ntmps72
          go_wp2_with fail
          refine HK.mono ?_
          rintro e w' ⟨rfl, rfl⟩
          go_wp2_with fail
          refine HI.mono ?_
          rintro e w1 ⟨rfl, hbl⟩
          go_wp2_with fail
          go_ret
          exact ⟨by rw [HS.out]; rfl, hbl⟩
      · have HS : Hid (isNameB s = false) := by simp [isNameB, h0, h32, hk2, Hid]
        generalize kindOf (byteAt s 0) = kd at *
        go_enter Tryz.func72, Tryz.ntmps72
        go_wp2_with fail
        refine HK.mono ?_
        rintro e w' ⟨rfl, rfl⟩
        go_wp2_with fail
        go_ret
        exact ⟨by rw [HS.out]; rfl, Below.refl _ _⟩
end Go.Proofs.YtoilgmdfbibniaaGreatDoor
