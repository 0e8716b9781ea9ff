/- capitals, keywords, IsKeyword, IsName. -/
import Derived.Test.YtoilgmdfbibniaaGreatDoorStrs
import Derived.Test.YtoilgmdfbibniaaGreatDoorShelf
set_option linter.unusedSimpArgs false
set_option linter.unusedVariables false
set_option maxRecDepth 20000
namespace Go.Proofs.YtoilgmdfbibniaaGreatDoor
open Go Go.RowKit

def capF (x : Int) : Int := if 97 ≤ x ∧ x ≤ 122 then x - 32 else x
theorem capF_any (x : Nat) (hx : x ≤ 1114111) (w : World) : Calls Tryz.prog 107 #[.int .i32 (x : Int)] w fun e w' => e = .returned (.int .i32 (capF x)) ∧ w = w' := by
  by_cases h1 : 97 ≤ x
  · by_cases h2 : x ≤ 122
    · have HS : Hid (capF x = (x : Int) - 97 + 65) := by unfold Hid; simp [capF]; omega
      go_enter Tryz.func107, Tryz.ntmps107
      go_wp2
      go_ret
      exact ⟨by rw [HS.out]; rfl, rfl⟩
    · have HS : Hid (capF x = (x : Int)) := by unfold Hid; simp [capF]; omega
      go_enter Tryz.func107, Tryz.ntmps107
      go_wp2
      go_ret
      exact ⟨by rw [HS.out]; rfl, rfl⟩
  · have HS : Hid (capF x = (x : Int)) := by unfold Hid; simp [capF]; omega
    go_enter Tryz.func107, Tryz.ntmps107
    go_wp2
    go_ret
    exact ⟨by rw [HS.out]; rfl, rfl⟩

/-- what the program's variables hold -/
structure Glob (w : World) : Prop where
  kinds : KindsAt w
  u8 : Lib.Utf8Tabs 2 3 w
  p10 : Lib.TabIs Tryz.prog w "internal/strconv.uint64pow10" .u64 Lib.pow10Tab
  esyn : ∃ ev, w.cell? ⟨7, 0, none⟩ = some ev ∧ (ev = .nilIface ∨ ∃ te pe, ev = .iface te pe)
  erng : ∃ ev, w.cell? ⟨8, 0, none⟩ = some ev ∧ (ev = .nilIface ∨ ∃ te pe, ev = .iface te pe)
  size : 9 ≤ w.heap.size

theorem Glob.keep {w w' : World} {r : Option Nat} (h : Glob w) (hg : w.grownBy w' r) (hr : ∀ k, r = some k → 9 ≤ k) : Glob w' := by
  have ne : ∀ g, g < 9 → some g ≠ r := fun g hg' e => by have := hr g e.symm; omega
  obtain ⟨ev, h1, h2⟩ := h.esyn
  obtain ⟨ev', h3, h4⟩ := h.erng
  refine ⟨h.kinds.keep hg (ne 0 (by omega)), ⟨fun c hc => hg.cell (h.u8.1 c hc) (ne 2 (by omega)), fun i hi => ⟨hg.cell (h.u8.2 i hi).1 (ne 3 (by omega)), hg.cell (h.u8.2 i hi).2 (ne 3 (by omega))⟩⟩, ?_,
    ⟨ev, hg.cell h1 (ne 7 (by omega)), h2⟩, ⟨ev', hg.cell h3 (ne 8 (by omega)), h4⟩, Nat.le_trans h.size hg.size⟩
  have hp := h.p10
  have hn : Tryz.prog.globalNamed "internal/strconv.uint64pow10" = some 1 := by kernel_rfl
  unfold Lib.TabIs World.var? at hp ⊢
  simp only [hn, Option.bind_some] at hp ⊢
  rw [hg.block _ (by have := h.size; omega) (ne 1 (by omega))]
  exact hp

theorem Glob.below {w w' : World} (h : Glob w) (hg : Below w.heap.size w w') : Glob w' := h.keep (gr_below hg none) (by simp)

/-- a text in capitals -/
def capS (s : ByteArray) : ByteArray := ⟨(Lib.mapD capF s.data.toList).toArray⟩
theorem capitals_any (s : ByteArray) (w : World) (hs : s.size < 35184372088832) (hg : Glob w) : Calls Tryz.prog 61 #[.string s] w fun e w' => e = .returned (.string (capS s)) ∧ Below w.heap.size w w' := by
  have H := Tryz.strings_Map_runes 107 #[] (fun args w => by kernel_rfl) capF s w hs (fun W x hx _ => (capF_any x hx W).mono fun e w' h => ⟨h.1, 0, h.2.symm⟩) (fun x hx => by unfold capF; split <;> omega) hg.u8
  generalize hr : capS s = r
  unfold capS at hr
  rw [hr] at H
  clear hr
  go_enter Tryz.func61, Tryz.ntmps61
  go_wp2_with fail
  refine H.mono ?_
  rintro e w1 ⟨rfl, hb⟩
  go_wp2_with fail
  go_ret
  exact ⟨rfl, hb⟩

def keywordsL : List ByteArray := [(⟨#[83, 69, 76, 69, 67, 84]⟩ : ByteArray), (⟨#[70, 82, 79, 77]⟩ : ByteArray), (⟨#[87, 72, 69, 82, 69]⟩ : ByteArray), (⟨#[71, 82, 79, 85, 80]⟩ : ByteArray), (⟨#[66, 89]⟩ : ByteArray), (⟨#[82, 79, 76, 76, 85, 80]⟩ : ByteArray), (⟨#[67, 85, 66, 69]⟩ : ByteArray), (⟨#[71, 82, 79, 85, 80, 73, 78, 71]⟩ : ByteArray), (⟨#[83, 69, 84, 83]⟩ : ByteArray), (⟨#[67, 79, 85, 78, 84]⟩ : ByteArray), (⟨#[83, 85, 77]⟩ : ByteArray), (⟨#[77, 73, 78]⟩ : ByteArray), (⟨#[77, 65, 88]⟩ : ByteArray), (⟨#[65, 78, 68]⟩ : ByteArray), (⟨#[79, 82]⟩ : ByteArray), (⟨#[78, 79, 84]⟩ : ByteArray), (⟨#[73, 78]⟩ : ByteArray)]
theorem keywords_any (w : World) : Calls Tryz.prog 105 #[] w fun e w' => e = .returned (.agg (keywordsL.map Value.string).toArray) ∧ Below w.heap.size w w' := by
  go_enter Tryz.func105, Tryz.ntmps105
  go_wp2_with (refine store_new rfl 168 _ _ rfl _ _ _ (by rfl) (by rfl) (by kernel_rfl) (by rfl) (by rfl) ?_)
  refine bodyPost_ret (v := .agg (keywordsL.map Value.string).toArray) ?_ rfl ⟨rfl, (Below.refl _ _).alloc (Nat.le_refl _) _⟩
  exact results_cell_row rfl _ _ w.heap.size 168 _ (0, 0) _ rfl (heap_alloc_new w _) Tryz.underlying168 rfl (by kernel_rfl)

def isKeyB (s : ByteArray) : Bool := hasS keywordsL (capS s)
theorem IsKeyword_any (s : ByteArray) (w : World) (hs : s.size < 35184372088832) (hg : Glob w) : Calls Tryz.prog 60 #[.string s] w fun e w' => e = .returned (.bool (isKeyB s)) ∧ Below w.heap.size w w' := by
  have HS : Hid (isKeyB s = hasS keywordsL (capS s)) := rfl
  have HC := fun W h => capitals_any s W hs h
  generalize isKeyB s = r at *
  generalize capS s = c at *
  go_enter Tryz.func60, Tryz.ntmps60
  go_wp2_with fail
  refine (keywords_any w).mono ?_
  rintro e w1 ⟨rfl, hb1⟩
  have hgl := hg.below hb1
  go_wp2_with (refine store_new rfl 168 _ _ rfl (keywordsL.map Value.string).toArray _ _ rfl rfl (by kernel_rfl) rfl rfl ?_)
  have hb2 : Below w.heap.size w (w1.alloc (.cells (keywordsL.map Value.string).toArray 168)).drew := (hb1.alloc hb1.size _).drew
  have hbk := heap_new w1 (.cells (keywordsL.map Value.string).toArray 168) _ rfl
  have hgl2 := hg.below hb2
  have HST : ∀ w2, Below (w1.alloc (.cells (keywordsL.map Value.string).toArray 168)).drew.heap.size (w1.alloc (.cells (keywordsL.map Value.string).toArray 168)).drew w2 → StrsR (fun _ => True) w2 (.slice (some ⟨w1.heap.size, 0, none⟩) 17 17) keywordsL := by
    intro w2 h
    refine ⟨_, 17, rfl, Nat.le_refl _, by unfold maxLen; omega, .inr ⟨w1.heap.size, 0, rfl, trivial, fun j u hj => ?_⟩⟩
    rw [Nat.zero_add]
    exact pw_cell h (blk_cell hbk j u hj)
  clear hbk
  go_region_held3 (fun w' => True) (trivial) (first | (go_at_call 61; refine (HC _ hgl2).mono ?_; rintro e w2 ⟨rfl, hb3⟩) | (go_at_call 91; refine (Contains_any _ keywordsL c _ w2 (HST w2 hb3)).mono ?_; rintro e w3 ⟨rfl, rfl⟩))
  go_wp2_with fail
  go_ret
  exact ⟨by rw [HS.out]; rfl, hb2.trans (hb3.mono hb2.size)⟩
end Go.Proofs.YtoilgmdfbibniaaGreatDoor
