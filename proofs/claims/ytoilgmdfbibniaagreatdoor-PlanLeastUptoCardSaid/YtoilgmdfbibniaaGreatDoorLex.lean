/- Package lex: kinds of bytes, runs of them. -/
import Derived.Test.YtoilgmdfbibniaaGreatDoorBase
set_option linter.unusedSimpArgs false
set_option linter.unusedVariables false
set_option maxRecDepth 20000
namespace Go.Proofs.YtoilgmdfbibniaaGreatDoor
open Go Go.RowKit

def kindsL : List Nat := [0,0,0,0,0,0,0,0,0,1,1,0,0,1,0,0,0,0,0,0,0,0,0,0,0,0,0,0,0,0,0,0,1,0,0,0,0,0,0,4,5,5,5,0,5,5,0,0,3,3,3,3,3,3,3,3,3,3,0,0,5,5,5,0,0,2,2,2,2,2,2,2,2,2,2,2,2,2,2,2,2,2,2,2,2,2,2,2,2,2,2,0,0,0,0,2,0,2,2,2,2,2,2,2,2,2,2,2,2,2,2,2,2,2,2,2,2,2,2,2,2,2,2,0,0,0,0,0]
def kindOf (c : Nat) : Nat := if 128 ≤ c then 0 else kindsL.getD c 0
theorem kindOf_lt (c : Nat) : kindOf c < 6 := by
  unfold kindOf
  split
  · omega
  · have : ∀ c < 128, kindsL.getD c 0 < 6 := by decide
    exact this c (by omega)

/-- the table of kinds is laid -/
def KindsAt (w : World) : Prop := ∀ c, c < 128 → w.cell? ⟨0, c, none⟩ = some (.int .u8 ((kindsL.getD c 0 : Nat) : Int))
theorem KindsAt.keep {w w' : World} {r : Option Nat} (h : KindsAt w) (hg : w.grownBy w' r) (hr : some 0 ≠ r) : KindsAt w' := fun c hc => hg.cell (h c hc) hr

theorem kind_any (c : Nat) (hc : c < 256) (w : World) (hk : KindsAt w) : Calls Tryz.prog 57 #[.int .u8 (c : Int)] w fun e w' => e = .returned (.int .u8 ((kindOf c : Nat) : Int)) ∧ w = w' := by
  by_cases h : 128 ≤ c
  · have HS : Hid (kindOf c = 0) := by simp [kindOf, h, Hid]
    go_enter Tryz.func57, Tryz.ntmps57
    go_wp2
    go_ret
    exact ⟨by rw [HS.out]; rfl, rfl⟩
  · have HS : Hid (kindOf c = kindsL.getD c 0) := by simp [kindOf, h, Hid]
    have hx := hk c (by omega)
    generalize kindsL.getD c 0 = k at *
    clear hk
    go_enter Tryz.func57, Tryz.ntmps57
    go_wp2
    go_ret
    exact ⟨by rw [HS.out]; rfl, rfl⟩

def isWordB (k : Nat) : Bool := k == 2 || k == 3
theorem isWord_any (k : Nat) (w : World) : Calls Tryz.prog 59 #[.int .u8 (k : Int)] w fun e w' => e = .returned (.bool (isWordB k)) ∧ w = w' := by
  by_cases h : k = 2
  · subst h
    go_enter Tryz.func59, Tryz.ntmps59
    go_wp2
    go_ret
    exact ⟨rfl, rfl⟩
  · have HS : Hid (isWordB k = (k == 3)) := by simp [isWordB, h, Hid]
    have h2 : ((k : Int) == 2) = false := by simp; omega
    by_cases h' : k = 3
    · subst h'
      go_enter Tryz.func59, Tryz.ntmps59
      go_wp2
      go_ret
      exact ⟨rfl, rfl⟩
    · have h3 : ((k : Int) == 3) = false := by simp; omega
      have HT : Hid (isWordB k = false) := by simp [isWordB, h, h', Hid]
      go_enter Tryz.func59, Tryz.ntmps59
      go_wp2
      go_ret
      exact ⟨by rw [HT.out]; rfl, rfl⟩
def isDigB (k : Nat) : Bool := k == 3
theorem isDig_any (k : Nat) (w : World) : Calls Tryz.prog 62 #[.int .u8 (k : Int)] w fun e w' => e = .returned (.bool (isDigB k)) ∧ w = w' := by
  by_cases h' : k = 3
  · subst h'
    go_enter Tryz.func62, Tryz.ntmps62
    go_wp2
    go_ret
    exact ⟨rfl, rfl⟩
  · have h3 : ((k : Int) == 3) = false := by simp; omega
    have HT : Hid (isDigB k = false) := by simp [isDigB, h', Hid]
    go_enter Tryz.func62, Tryz.ntmps62
    go_wp2
    go_ret
    exact ⟨by rw [HT.out]; rfl, rfl⟩

/-- the byte at a place -/
def byteAt (s : ByteArray) (i : Nat) : Nat := if h : i < s.size then (s[i]'h).toNat else 0
theorem byteAt_lt (s : ByteArray) (i : Nat) : byteAt s i < 256 := by
  unfold byteAt; split
  · exact UInt8.toNat_lt _
  · omega
theorem byteAt_in (s : ByteArray) (i : Nat) (h : i < s.size) : byteAt s i = (s[i]'h).toNat := by simp [byteAt, h]

/-- the place behind the bytes of some kinds -/
def runTo (s : ByteArray) (p : Nat → Bool) (i : Nat) : Nat := if h : i < s.size ∧ p (kindOf (byteAt s i)) = true then runTo s p (i + 1) else i
termination_by s.size - i
theorem runTo_le (s : ByteArray) (p : Nat → Bool) (i : Nat) (h : i ≤ s.size) : i ≤ runTo s p i ∧ runTo s p i ≤ s.size := by
  induction hn : s.size - i generalizing i with
  | zero => unfold runTo; rw [dif_neg (by omega)]; omega
  | succ n ih =>
    unfold runTo
    split
    · rename_i hc
      have := ih (i + 1) (by omega) (by omega)
      omega
    · omega

theorem run_any (s : ByteArray) (i : Nat) (hi : i ≤ s.size) (hs : s.size ≤ 4096) (p : Nat → Bool) (f : FuncId) (hcf : ∀ args w, (callFunc f args).run Tryz.prog w = .ok (.enter f args) w) (hf : ∀ (k : Nat) (w : World), Calls Tryz.prog f #[.int .u8 (k : Int)] w fun e w' => e = .returned (.bool (p k)) ∧ w = w') (w : World) (hk : KindsAt w) :
    Calls Tryz.prog 58 #[.string s, .int .i64 (i : Int), .func (.func f) #[] #[]] w fun e w' => e = .returned (.int .i64 ((runTo s p i : Nat) : Int)) ∧ w = w' := by
  generalize hr : runTo s p i = r
  have HR : Hid (runTo s p i = r) := hr
  clear hr
  go_enter Tryz.func58, Tryz.ntmps58
  go_wp2_with fail
  go_loop [1] (fun x => ∃ k : Nat, k ≤ s.size ∧ x = .int .i64 k ∧ Hid (runTo s p k = r)) (fun x => s.size - (intOf x).toNat)
  case atStart => exact ⟨i, hi, rfl, HR⟩
  case round =>
    obtain ⟨k, hk', rfl, hrk⟩ := hrel
    by_cases hlt : k < s.size
    · have hb : ((s[k]'hlt).toNat : Int) = (byteAt s k : Int) := by rw [byteAt_in s k hlt]
      have HK := kind_any (byteAt s k) (byteAt_lt s k) w hk
      have HT : Hid (runTo s p k = if p (kindOf (byteAt s k)) = true then runTo s p (k + 1) else k) := by
        unfold Hid
        rw [runTo]
        by_cases hp : p (kindOf (byteAt s k)) = true
        · rw [dif_pos ⟨hlt, hp⟩, if_pos hp]
        · rw [dif_neg (by simp [hp]), if_neg hp]
      clear hk
      go_wp2_with fail
      refine HK.mono ?_
      rintro e w' ⟨rfl, rfl⟩
      clear HK hb
      generalize kindOf (byteAt s k) = kd at *
      go_wp2_with fail
      refine (hf kd w).mono ?_
      rintro e w' ⟨rfl, rfl⟩
      cases hp : p kd
      · have HU : Hid (runTo s p k = k) := by unfold Hid; rw [HT.out, hp]; simp
        clear HT hp
        go_wp2_with fail
        go_ret
        exact ⟨by rw [← hrk.out, HU.out]; rfl, rfl⟩
      · have HU : Hid (runTo s p (k + 1) = r) := by unfold Hid; rw [← hrk.out, HT.out, hp]; simp
        clear HT hp hrk
        go_wp2_with fail
        go_round
        case rel => exact ⟨k + 1, by omega, by go_num, HU⟩
        case measure => simp [intOf]; omega
    · have HU : Hid (runTo s p k = k) := by unfold Hid; rw [runTo, dif_neg (by omega)]
      clear hk
      go_wp2_with fail
      go_ret
      exact ⟨by rw [← hrk.out, HU.out]; rfl, rfl⟩
end Go.Proofs.YtoilgmdfbibniaaGreatDoor
