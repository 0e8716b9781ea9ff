/- Sets of dimensions as numbers: isSet, Covers, Of, List, OnesCount. -/
import Derived.Test.YtoilgmdfbibniaaGreatDoorBase
set_option linter.unusedSimpArgs false
set_option linter.unusedVariables false
set_option maxRecDepth 20000
namespace Go.Proofs.YtoilgmdfbibniaaGreatDoor
open Go Go.RowKit

theorem and_small (a : Int) (m : Nat) (hm : m < 9223372036854775808) : 0 ≤ bits .and .i64 a (m : Int) ∧ bits .and .i64 a (m : Int) ≤ (m : Int) := by
  have h2 : (BitVec.ofInt 64 (m : Int)).toNat = m := by
    rw [BitVec.ofInt_natCast, BitVec.toNat_ofNat]; exact Nat.mod_eq_of_lt (by omega)
  have h : bits .and .i64 a (m : Int) = IntKind.i64.wrap (((BitVec.ofInt 64 a &&& BitVec.ofInt 64 (m : Int)).toNat : Nat) : Int) := rfl
  have hle : (BitVec.ofInt 64 a &&& BitVec.ofInt 64 (m : Int)).toNat ≤ m := by
    rw [BitVec.toNat_and, h2]
    exact Nat.and_le_right
  rw [h, IntKind.wrap_i64]
  generalize (BitVec.ofInt 64 a &&& BitVec.ofInt 64 (m : Int)).toNat = x at hle
  omega

def isSetB (n : Int) : Bool := decide (0 ≤ n ∧ n ≤ 63)
theorem isSet_any (n : Int) (w : World) : Calls Tryz.prog 20 #[.int .i64 n] w fun e w' => e = .returned (.bool (isSetB n)) ∧ w = w' := by
  unfold isSetB
  by_cases h0 : 0 ≤ n
  · by_cases h1 : n ≤ 63
    · go_enter Tryz.func20, Tryz.ntmps20
      go_wp2
      go_ret
      simp [h0, h1]
    · go_enter Tryz.func20, Tryz.ntmps20
      go_wp2
      go_ret
      simp [h0, h1]
      try omega
  · go_enter Tryz.func20, Tryz.ntmps20
    go_wp2
    go_ret
    simp
    try omega

theorem ones64_any (n : Int) (w : World) (h0 : 0 ≤ n) (h1 : n ≤ 63) : Calls Tryz.prog 100 #[.int .u64 n] w fun e w' => ∃ x : Int, e = .returned (.int .i64 x) ∧ 0 ≤ x ∧ x ≤ 127 ∧ w = w' := by
  go_enter Tryz.func100, Tryz.ntmps100
  go_wp2
  go_ret
  exact ⟨_, rfl, (and_small _ 127 (by omega)).1, (and_small _ 127 (by omega)).2, rfl⟩
theorem ones_any (n : Int) (w : World) (h0 : 0 ≤ n) (h1 : n ≤ 63) : Calls Tryz.prog 49 #[.int .u64 n] w fun e w' => ∃ x : Int, e = .returned (.int .i64 x) ∧ 0 ≤ x ∧ x ≤ 127 ∧ w = w' := by
  go_enter Tryz.func49, Tryz.ntmps49
  go_wp2_with (go_at_call 100; refine (ones64_any _ _ h0 h1).mono ?_; rintro e w' ⟨x, rfl, hx0, hx1, rfl⟩)
  go_ret
  exact ⟨x, rfl, hx0, hx1, rfl⟩

def coversB (v n : Int) : Bool := isSetB v && isSetB n && (bits .andNot .i64 n v == 0)
theorem Covers_any (v n : Int) (w : World) : Calls Tryz.prog 8 #[.int .i64 v, .int .i64 n] w fun e w' => e = .returned (.bool (coversB v n)) ∧ w = w' := by
  unfold coversB
  cases hv : isSetB v
  · go_enter Tryz.func8, Tryz.ntmps8
    go_wp2_with (go_at_call 20; refine (isSet_any _ _).mono ?_; rintro e w' ⟨rfl, rfl⟩)
    go_ret
    simp
  · cases hn : isSetB n
    · go_enter Tryz.func8, Tryz.ntmps8
      go_wp2_with (go_at_call 20; refine (isSet_any _ _).mono ?_; rintro e w' ⟨rfl, rfl⟩)
      go_ret
      simp
    · go_enter Tryz.func8, Tryz.ntmps8
      go_wp2_with (go_at_call 20; refine (isSet_any _ _).mono ?_; rintro e w' ⟨rfl, rfl⟩)
      go_ret
      simp

/-- one step of Of: 'out |= 1 << i' where i is a dimension -/
def ofStep (out i : Int) : Int := if 0 ≤ i ∧ i < 6 then bits .or .i64 out (wrap64 (2 ^ i.toNat)) else out
def ofI (l : List Int) : Int := l.foldl ofStep 0

theorem Of_any (F : Nat → Prop) (v : Value) (l : List Int) (w : World) (h : IntsR F w v l) :
   Calls Tryz.prog 18 #[v] w fun e w' => e = .returned (.int .i64 (ofI l)) ∧ w = w' := by
  have h' := h
  obtain ⟨a, c, rfl, hc, hm, -⟩ := h'
  have hm' : l.length ≤ 9223372036854775807 := by unfold maxLen at hm; omega
  clear hm hc
  go_enter Tryz.func18, Tryz.ntmps18
  go_wp2
  go_loop [3, 8] (fun o i => ∃ k : Nat, k ≤ l.length ∧ i = .int .i64 k ∧ o = .int .i64 (ofI (l.take k))) (fun _ i => l.length - (intOf i).toNat)
  case atStart => exact ⟨0, Nat.zero_le _, rfl, rfl⟩
  case round =>
    obtain ⟨k, hk, rfl, rfl⟩ := hrel
    by_cases hlt : k < l.length
    · obtain ⟨g, o, rfl, -, hgs, hcell⟩ := Rd.at_ h (j := k) (by simpa using hlt)
      have hx : w.cell? ⟨g, o + k, none⟩ = some (.int .i64 l[k]) := hcell k _ (by simp [hlt])
      have HS : Hid (ofI (l.take (k + 1)) = ofStep (ofI (l.take k)) l[k]) := by
        unfold Hid ofI; rw [List.take_succ_eq_append_getElem hlt, List.foldl_append]; rfl
      generalize l[k] = x at hx HS
      generalize ofI (l.take k) = y at HS
      clear hcell h
      by_cases h0 : 0 ≤ x
      · by_cases h1 : x < 6
        · go_wp2
          go_round
          case rel => exact ⟨k + 1, by omega, by go_num, by rw [HS.out, ofStep, if_pos ⟨h0, h1⟩]⟩
          case measure => simp [intOf]; omega
        · go_wp2
          go_round
          case rel => exact ⟨k + 1, by omega, by go_num, by rw [HS.out, ofStep, if_neg (by omega)]⟩
          case measure => simp [intOf]; omega
      · go_wp2
        go_round
        case rel => exact ⟨k + 1, by omega, by go_num, by rw [HS.out, ofStep, if_neg (by omega)]⟩
        case measure => simp [intOf]; omega
    · go_wp2
      go_ret
      exact ⟨ret_int (by rw [List.take_of_length_le (by omega)]), rfl⟩

/-- the dimensions of a set -/
def hasB (s i : Int) : Bool := bits .and .i64 s (wrap64 (2 ^ i.toNat)) != 0
def listTo (s : Int) : Nat → List Int
  | 0 => []
  | k + 1 => listTo s k ++ (if hasB s k then [(k : Int)] else [])
def listI (s : Int) : List Int := if 0 ≤ s ∧ s ≤ 63 then listTo s 6 else []
theorem listTo_le (s : Int) (k : Nat) : (listTo s k).length ≤ k := by
  induction k with
  | zero => simp [listTo]
  | succ k ih => simp only [listTo, List.length_append]; split <;> simp <;> omega

theorem List_out (s : Int) (w : World) (h : ¬ (0 ≤ s ∧ s ≤ 63)) : Calls Tryz.prog 19 #[.int .i64 s] w fun e w' => e = .returned (.slice none 0 0) ∧ w = w' := by
  by_cases h0 : 0 ≤ s
  · have h1 : 63 < s := by omega
    clear h
    go_enter Tryz.func19, Tryz.ntmps19
    go_wp2
    go_ret
    exact ⟨rfl, rfl⟩
  · clear h
    go_enter Tryz.func19, Tryz.ntmps19
    go_wp2
    go_ret
    exact ⟨rfl, rfl⟩

theorem List_in (s : Int) (w : World) (h0 : 0 ≤ s) (h1 : s ≤ 63) : Calls Tryz.prog 19 #[.int .i64 s] w fun e w' => ∃ v, e = .returned v ∧ w'.ownsRow w.heap.size 3 1 v (listTo s 6).length ((listTo s 6).map (Value.int .i64)) ∧ Below w.heap.size w w' := by
  go_enter Tryz.func19, Tryz.ntmps19
  go_wp2_with (first
    | (go_at_call 49; refine (ones_any _ _ (by simpa using h0) (by simpa using h1)).mono ?_; rintro e w' ⟨x, rfl, hx0, hx1, rfl⟩)
    | (at_make; refine mk0 rfl _ _ 25 rfl w.heap.size 3 (.int .i64 0) 1 8 Tryz.underlying25 (by kernel_rfl) .i64 .i64 _ rfl rfl hx0 (by omega) (by omega) (Nat.le_refl _) ?_; intro w1 hown1 hg1))
  have hb1 := below_gr hg1
  clear hg1
  go_loopw [3, 15] (fun v i wr => ∃ k : Nat, k ≤ 6 ∧ i = .int .i64 k ∧ wr.ownsRow w.heap.size 3 1 v (listTo s k).length ((listTo s k).map (Value.int .i64)) ∧ Below w.heap.size w wr) (fun _ i _ => 6 - (intOf i).toNat)
  case atStart => exact ⟨0, by omega, rfl, hown1, hb1⟩
  case round =>
    obtain ⟨k, hk, rfl, hown, hb⟩ := hrel
    have hle := listTo_le s k
    have hbs := hb.size
    by_cases hlt : k < 6
    · cases hbit : hasB s k
      · have hbit' : (bits .and .i64 s (wrap64 (2 ^ k)) != 0) = false := by simpa [hasB] using hbit
        have HS : Hid (listTo s (k + 1) = listTo s k) := by simp [listTo, hbit, Hid]
        clear hbit
        go_wp2
        go_roundw
        case rel => exact ⟨k + 1, by omega, by go_num, by rw [HS.out]; exact hown, hb⟩
        case measure => simp [intOf]; omega
      · have hbit' : (bits .and .i64 s (wrap64 (2 ^ k)) != 0) = true := by simpa [hasB] using hbit
        have HS : Hid (listTo s (k + 1) = listTo s k ++ [(k : Int)]) := by simp [listTo, hbit, Hid]
        clear hbit
        go_wp2_with (at_builtin; refine app1 rfl _ _ 25 3 rfl Tryz.underlying25 (.int .i64 0) 1 8 (by kernel_rfl) rfl (by decide) hown [.int .i64 k] rfl rfl rfl (by simp [Value.oneCell']) hbs (by omega) (by unfold maxLen; omega) ?_; intro v1 w2 hown2 hg2 hb2 hn2)
        have hbb : Below w.heap.size w w2 := hb.grown hg2 hbs (own_base hown)
        go_wp2
        go_roundw
        case rel => exact ⟨k + 1, by omega, by go_num, by rw [HS.out]; simpa using hown2, hbb⟩
        case measure => simp [intOf]; omega
    · obtain rfl : k = 6 := by omega
      go_wp2
      go_ret
      exact ⟨_, rfl, hown, hb⟩
end Go.Proofs.YtoilgmdfbibniaaGreatDoor
