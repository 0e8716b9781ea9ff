/- lex.text: what a String says. -/
import Derived.Test.YtoilgmdfbibniaaGreatDoorBuf
import Derived.Test.YtoilgmdfbibniaaGreatDoorShelf
import Derived.Test.YtoilgmdfbibniaaGreatDoorLex
set_option linter.unusedSimpArgs false
set_option linter.unusedVariables false
set_option maxRecDepth 20000
namespace Go.Proofs.YtoilgmdfbibniaaGreatDoor
open Go Go.RowKit

def textGo (s : ByteArray) (i : Nat) (acc : List UInt8) : Option (List UInt8 × Nat) :=
  if h : i < s.size then
    (if byteAt s i = 39 then (if h2 : i + 1 < s.size then (if byteAt s (i + 1) = 39 then textGo s (i + 2) (acc ++ [s[i + 1]]) else some (acc, i + 1)) else some (acc, i + 1))
     else textGo s (i + 1) (acc ++ [s[i]]))
  else none
termination_by s.size - i

def textRet : Option (List UInt8 × Nat) → Value
  | some (l, n) => .tuple #[.string ⟨l.toArray⟩, .int .i64 (n : Int), .bool true]
  | none => .tuple #[.string ⟨#[]⟩, .int .i64 0, .bool false]

theorem textGo_le (s : ByteArray) (i : Nat) (acc : List UInt8) (l : List UInt8) (n : Nat) (h : textGo s i acc = some (l, n)) : i < n ∧ n ≤ s.size ∧ l.length + i ≤ acc.length + s.size := by
  induction hn : s.size - i using Nat.strongRecOn generalizing i acc with
  | _ m ih =>
    rw [textGo] at h
    split at h
    · rename_i hlt
      split at h
      · split at h
        · split at h
          · have := ih _ (by omega) _ _ h rfl
            simp at this
            omega
          · cases h; omega
        · cases h; omega
      · have := ih _ (by omega) _ _ h rfl
        simp at this
        omega
    · cases h

set_option maxHeartbeats 1000000 in
theorem text_any (s : ByteArray) (i : Nat) (hi : i < s.size) (hs : s.size ≤ 4096) (w : World) :
    Calls Tryz.prog 63 #[.string s, .int .i64 (i : Int)] w fun e w' => e = .returned (textRet (textGo s (i + 1) [])) ∧ Below w.heap.size w w' := by
  generalize hr : textGo s (i + 1) [] = r
  have HR : Hid (textGo s (i + 1) [] = r) := hr
  clear hr
  go_enter Tryz.func63, Tryz.ntmps63
  go_wp2_with fail
  have hB := Lib.fresh_isBuilder 175 5 w
  have hbl : Below w.heap.size w (w.alloc (.cells #[.pointer none, .slice none 0 0] 175)) := (Below.refl _ _).alloc (Nat.le_refl _) _
  generalize (w.alloc (.cells #[.pointer none, .slice none 0 0] 175)) = w1 at *
  go_loopw [8] (fun x wr => ∃ (k : Nat) (acc : List UInt8), k ≤ s.size ∧ acc.length ≤ k ∧ x = .int .i64 k ∧ Hid (textGo s k acc = r) ∧ Lib.IsBuilder 175 5 w.heap.size w.heap.size (Lib.byteCells acc) wr ∧ Below w.heap.size w wr) (fun x _ => s.size - (intOf x).toNat)
  case atStart => exact ⟨i + 1, [], by omega, by simp, by go_num, HR, hB, hbl⟩
  case round =>
    obtain ⟨k, acc, hk, hac, rfl, hrk, hbd, hbw⟩ := hrel
    by_cases hlt : k < s.size
    · have hb : ((s[k]'hlt).toNat : Int) = (byteAt s k : Int) := by rw [byteAt_in s k hlt]
      by_cases h39 : byteAt s k = 39
      · have hb' : ((s[k]'hlt).toNat : Int) = 39 := by rw [hb, h39]; rfl
        by_cases h2 : k + 1 < s.size
        · have hc : ((s[k + 1]'h2).toNat : Int) = (byteAt s (k + 1) : Int) := by rw [byteAt_in s (k + 1) h2]
          by_cases h40 : byteAt s (k + 1) = 39
          · have hc' : ((s[k + 1]'h2).toNat : Int) = 39 := by rw [hc, h40]; rfl
            have HT : Hid (textGo s (k + 2) (acc ++ [s[k + 1]]) = r) := by
              unfold Hid; rw [← hrk.out, textGo.eq_1 s k acc, dif_pos hlt, if_pos h39, dif_pos h2, if_pos h40]
            have HW := WriteByte_any w.heap.size w.heap.size (Lib.byteCells acc) 39 wr hbd (by simp [Lib.byteCells]; omega) hbw.size
            have HE : Lib.byteCells (acc ++ [s[k + 1]]) = Lib.byteCells acc ++ [.int .u8 39] := by simp [Lib.byteCells, hc']
            clear hb hc
            go_wp2_with fail
            refine HW.mono ?_
            rintro e w2 ⟨rfl, hbd2, hbw2⟩
            go_wp2_with fail
            go_roundw
            case rel => exact ⟨k + 2, acc ++ [s[k + 1]], by omega, by simp; omega, by go_num, HT, .inr (by rw [HE]; exact hbd2), hbw.trans hbw2⟩
            case measure => simp [intOf]; omega
          · have hc' : (byteAt s (k + 1) : Int) ≠ 39 := by omega
            have hc2 : ((byteAt s (k + 1) : Int) != 39) = true := by simpa using hc'
            have HT : Hid (r = some (acc, k + 1)) := by
              unfold Hid; rw [← hrk.out, textGo.eq_1 s k acc, dif_pos hlt, if_pos h39, dif_pos h2, if_neg h40]
            have HS := Tryz.Builder_String_any w.heap.size w.heap.size acc wr hbd hbw.size
            go_wp2_with fail
            refine HS.mono ?_
            rintro e w2 ⟨rfl, hbw2⟩
            go_wp2_with fail
            go_ret3
            exact ⟨by rw [HT.out]; rfl, hbw.trans hbw2⟩
        · have HT : Hid (r = some (acc, s.size)) := by
            unfold Hid; rw [← hrk.out, textGo.eq_1 s k acc, dif_pos hlt, if_pos h39, dif_neg h2, show k + 1 = s.size by omega]
          have HS := Tryz.Builder_String_any w.heap.size w.heap.size acc wr hbd hbw.size
          go_wp2_with fail
          refine HS.mono ?_
          rintro e w2 ⟨rfl, hbw2⟩
          go_wp2_with fail
          go_ret3
          exact ⟨by rw [HT.out]; rfl, hbw.trans hbw2⟩
      · have hb' : (byteAt s k : Int) ≠ 39 := by omega
        have HE : Lib.byteCells (acc ++ [s[k]]) = Lib.byteCells acc ++ [.int .u8 (byteAt s k : Int)] := by simp [Lib.byteCells, byteAt_in s k hlt]
        have HT : Hid (textGo s (k + 1) (acc ++ [s[k]]) = r) := by
          unfold Hid; rw [← hrk.out, textGo.eq_1 s k acc, dif_pos hlt, if_neg h39]
        have HW := WriteByte_any w.heap.size w.heap.size (Lib.byteCells acc) (byteAt s k : Int) wr hbd (by simp [Lib.byteCells]; omega) hbw.size
        go_wp2_with fail
        refine HW.mono ?_
        rintro e w2 ⟨rfl, hbd2, hbw2⟩
        go_wp2_with fail
        go_roundw
        case rel => exact ⟨k + 1, acc ++ [s[k]], by omega, by simp; omega, by go_num, HT, .inr (by rw [HE]; exact hbd2), hbw.trans hbw2⟩
        case measure => simp [intOf]; omega
    · have HT : Hid (r = none) := by unfold Hid; rw [← hrk.out, textGo, dif_neg hlt]
      go_wp2_with fail
      go_ret3
      exact ⟨by rw [HT.out]; rfl, hbw⟩
end Go.Proofs.YtoilgmdfbibniaaGreatDoor
