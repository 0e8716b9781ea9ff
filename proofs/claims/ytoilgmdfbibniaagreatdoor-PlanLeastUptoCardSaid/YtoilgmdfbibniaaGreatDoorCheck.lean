/- bind: an item's name; the check of the laws' schema. -/
import Derived.Test.YtoilgmdfbibniaaGreatDoorShow
import Derived.Test.YtoilgmdfbibniaaGreatDoorOf
set_option linter.unusedSimpArgs false
set_option linter.unusedVariables false
set_option maxRecDepth 20000
namespace Go.Proofs.YtoilgmdfbibniaaGreatDoor
open Go Go.RowKit

set_option maxHeartbeats 1000000 in
theorem name_bind (k : Nat) (s : ByteArray) (w : World) (hG : Glob w) :
    Calls Tryz.prog 36 #[.agg #[.int .i64 (k : Int), .string s]] w fun e w' => ∃ t : ByteArray, e = .returned (.string t) ∧ w.grownBy w' none := by
  have hg1 := gr_alloc (World.grownBy_alloc w (.cells #[.int .i64 (k : Int), .string s] 81) none) (.cells #[.int .i64 (k : Int), .string s] 81)
  have hb := heap_new (w.alloc (.cells #[.int .i64 (k : Int), .string s] 81)) (.cells #[.int .i64 (k : Int), .string s] 81) (w.heap.size + 1) (by simp)
  have hv : ItemsR (· = w.heap.size + 1) ((w.alloc (.cells #[.int .i64 (k : Int), .string s] 81)).alloc (.cells #[.int .i64 (k : Int), .string s] 81)) (.slice (some ⟨w.heap.size + 1, 0, none⟩) 1 1) [(k, s)] :=
    ⟨_, _, rfl, Nat.le_refl _, by unfold maxLen; omega, .inr ⟨w.heap.size + 1, 0, rfl, rfl, fun j u hj => by rw [Nat.zero_add]; exact blk_cell (l := [_, _]) hb j u hj⟩⟩
  have HS := Show_one k s _ _ (hG.keepN hg1) (fun k hk => by subst hk; simp) hv
  clear hb hv
  go_enter Tryz.func36, Tryz.ntmps36
  go_wp2_with fail
  refine HS.mono ?_
  clear HS
  rintro e w2 ⟨t, n, rfl, ht, hg2⟩
  have hg := gr_trans hg1 hg2
  clear hg1 hg2
  go_wp2_with fail
  refine (Tryz.strings_TrimPrefix _ _ _).mono ?_
  rintro e w3 ⟨rfl, rfl⟩
  have hsz : (⟨(Lib.trimPrefix t.data.toList ((⟨#[83, 69, 76, 69, 67, 84, 32]⟩ : ByteArray)).data.toList).toArray⟩ : ByteArray).size ≤ 9223372036854775807 := by
    show (Lib.trimPrefix t.data.toList _).toArray.size ≤ _
    have h1 : t.data.toList.length = t.size := rfl
    have : (Lib.trimPrefix t.data.toList ((⟨#[83, 69, 76, 69, 67, 84, 32]⟩ : ByteArray)).data.toList).length ≤ t.data.toList.length := by
      unfold Lib.trimPrefix
      split
      · simp
      · exact Nat.le_refl _
    simp at this ⊢; omega
  go_wp2_with fail
  refine (Tryz.strings_TrimSuffix _ _ _ hsz).mono ?_
  rintro e w3 ⟨rfl, rfl⟩
  clear hsz
  go_wp2_with fail
  go_ret
  exact ⟨_, rfl, hg⟩

def dimsL : List ByteArray := [(⟨#[97]⟩ : ByteArray), (⟨#[98]⟩ : ByteArray), (⟨#[99]⟩ : ByteArray)]
def measL : List ByteArray := [(⟨#[109]⟩ : ByteArray), (⟨#[110]⟩ : ByteArray)]
/-- the map of the laws' schema -/
def cols0 : DataW Unit := colsF dimsL measL
theorem cols0_size : Maps.size cols0 = 5 := by kernel_rfl

set_option maxHeartbeats 2000000 in
theorem Check_0 {F : Nat → Prop} (vd vm : Value) (w : World) (hG : Glob w) (hF : ∀ k, F k → k < w.heap.size) (hd : StrsR F w vd dimsL) (hm : StrsR F w vm measL) :
    Calls Tryz.prog 32 #[.agg #[vd, vm]] w fun e w' => e = .returned (.int .i64 0) ∧ w.grownBy w' none := by
  obtain ⟨ad, cd, rfl, hcd, hmd⟩ := hd.slice
  obtain ⟨am, cm, rfl, hcm, hmm⟩ := hm.slice
  rw [show dimsL.length = 3 from rfl] at *
  rw [show measL.length = 2 from rfl] at *
  have hg1 := World.grownBy_alloc w (.cells #[.slice ad 3 cd, .slice am 2 cm] 54) none
  have b1 := heap_new w (.cells #[.slice ad 3 cd, .slice am 2 cm] 54) _ rfl
  have hg2 := gr_alloc hg1 (.cells #[.slice ad 3 cd, .slice am 2 cm] 23)
  have b12 := heap_old _ (.cells #[.slice ad 3 cd, .slice am 2 cm] 23) _ _ b1
  have b2 := heap_new (w.alloc (.cells #[.slice ad 3 cd, .slice am 2 cm] 54)) (.cells #[.slice ad 3 cd, .slice am 2 cm] 23) (w.heap.size + 1) (by simp)
  have hrows : RowsR (fun k => F k ∨ k = w.heap.size + 1) ((w.alloc (.cells #[.slice ad 3 cd, .slice am 2 cm] 54)).alloc (.cells #[.slice ad 3 cd, .slice am 2 cm] 23)) (.slice (some ⟨w.heap.size + 1, 0, none⟩) 2 2) [dimsL, measL] := by
    refine ⟨[.slice ad 3 cd, .slice am 2 cm], rfl, ?_, ⟨_, _, rfl, Nat.le_refl _, by unfold maxLen; omega, .inr ⟨w.heap.size + 1, 0, rfl, .inr rfl, fun j u hj => by rw [Nat.zero_add]; exact blk_cell (l := [_, _]) b2 j u hj⟩⟩⟩
    intro i u y hu hy
    rcases i with _ | _ | i
    · simp at hu hy; subst hu hy; exact (hd.keep hg2 (by simp)).mono (fun k hk => .inl hk)
    · simp at hu hy; subst hu hy; exact (hm.keep hg2 (by simp)).mono (fun k hk => .inl hk)
    · simp at hu
  have hFW : ∀ k, (F k ∨ k = w.heap.size + 1) → k < ((w.alloc (.cells #[.slice ad 3 cd, .slice am 2 cm] 54)).alloc (.cells #[.slice ad 3 cd, .slice am 2 cm] 23)).heap.size := by
    intro k hk
    have hs : ((w.alloc (.cells #[.slice ad 3 cd, .slice am 2 cm] 54)).alloc (.cells #[.slice ad 3 cd, .slice am 2 cm] 23)).heap.size = w.heap.size + 2 := by simp
    rw [hs]
    rcases hk with hk | rfl
    · have := hF k hk; omega
    · omega
  have HC := Concat_any _ [dimsL, measL] _ _ hFW (by decide) hrows
  rw [show [dimsL, measL].flatten.length = 5 from rfl] at HC
  clear b1 b2 hrows hg1 hFW
  go_enter Tryz.func32, Tryz.ntmps32
  go_wp2_with fail
  generalize ((w.alloc _).alloc _) = W at *
  refine HC.mono ?_
  clear HC
  rintro e w3 ⟨u, rfl, hown, hg3⟩
  have b13 := gr_blk hg3 b12 (by simp)
  have hg03 := gr_trans hg2 hg3
  have hall : StrsR (W.heap.size ≤ ·) w3 u (dimsL ++ measL) := Rd.own hown
  obtain ⟨au, cu, rfl, hcu, hmu⟩ := hall.slice
  rw [show (dimsL ++ measL).length = 5 from rfl] at *
  have q0 := blk_cell (l := [_, _]) b13 0 _ rfl
  have q1 := blk_cell (l := [_, _]) b13 1 _ rfl
  have hgs := blk_lt b13
  have HL := columns_any F dimsL measL (.slice ad 3 cd) (.slice am 2 cm) w3 (by decide) (by decide) (by decide) (by decide) (hd.keep hg03 (by simp)) (hm.keep hg03 (by simp))
  clear hown b12 hg2 hg3
  go_wp2_with fail
  refine HL.mono ?_
  clear HL
  rintro e w4 ⟨b, rfl, hbl, hmap, hg4⟩
  have hlen : ∀ ty, (Builtin.len_ #[77] ty #[.map (some b)]).run Tryz.prog w4 = .ok (.int .i64 5) w4 := fun ty => by
    have h := hmap.len Tryz.underlying77 ty
    rw [show Maps.size (colsF dimsL measL) = 5 from cols0_size] at h
    exact h
  have hg04 := gr_trans hg03 hg4
  have HN := ContainsFunc_S0 71 (fun args w => by kernel_rfl) (fun s => !isNameB s) (hall.keep hg4 (by simp)) (fun W s hg _ => notName_bind s W (hG.keepN (gr_trans hg04 hg)))
  rw [show ((dimsL ++ measL).any fun s => !isNameB s) = false by kernel_rfl] at HN
  clear hmap hall hg4 hg03
  go_wp2_with fail
  refine HN.mono ?_
  rintro e w5 ⟨rfl, hg5⟩
  go_wp2_with fail
  go_ret
  exact ⟨rfl, gr_trans hg04 hg5⟩
end Go.Proofs.YtoilgmdfbibniaaGreatDoor
