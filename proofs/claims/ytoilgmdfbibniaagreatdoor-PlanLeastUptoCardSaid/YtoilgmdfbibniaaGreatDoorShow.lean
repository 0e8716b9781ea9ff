/- parse.Show of one item; bind.name. -/
import Derived.Test.YtoilgmdfbibniaaGreatDoorFew
import Derived.Deep.RegionHeld3
set_option linter.unusedSimpArgs false
set_option linter.unusedVariables false
set_option maxRecDepth 20000
namespace Go.Proofs.YtoilgmdfbibniaaGreatDoor
open Go Go.RowKit

theorem size_app (a b : ByteArray) : (a ++ b).size = a.size + b.size := ByteArray.size_append

set_option maxHeartbeats 2000000 in
theorem itemText_any (k : Nat) (s : ByteArray) (w : World) (h1 : 1 ≤ k) (h6 : k ≤ 6) (hs : s.size ≤ 32) :
    Calls Tryz.prog 125 #[.agg #[.int .i64 (k : Int), .string s]] w fun e w' => ∃ t : ByteArray, e = .returned (.string t) ∧ t.size ≤ 50 ∧ w.grownBy w' none := by
  have hb : ∀ x y z : ByteArray, x.size ≤ 8 → y.size ≤ 1 → z.size ≤ 1 → (x ++ y ++ s ++ z).size ≤ 50 := by
    intro x y z h1 h2 h3
    rw [size_app, size_app, size_app]; omega
  have hc : k = 1 ∨ k = 2 ∨ k = 3 ∨ k = 4 ∨ k = 5 ∨ k = 6 := by omega
  rcases hc with rfl | rfl | rfl | rfl | rfl | rfl
  · go_enter Tryz.func125, Tryz.ntmps125
    go_wp2_with fail
    go_ret
    exact ⟨s, rfl, by omega, gr_alloc (gr_alloc (gr_refl _ _) _) _⟩
  · go_enter Tryz.func125, Tryz.ntmps125
    go_wp2_with fail
    go_ret
    exact ⟨_, rfl, by decide, gr_alloc (gr_alloc (gr_refl _ _) _) _⟩
  all_goals
    go_enter Tryz.func125, Tryz.ntmps125
    go_wp2_with fail
    go_quiet (fail)
    go_wp2_with fail
    go_ret
    exact ⟨_, rfl, hb _ _ _ (by decide) (by decide) (by decide), gr_drewN (gr_alloc (gr_alloc (gr_refl _ _) _) _) _⟩

theorem join_one (t sep : ByteArray) : (⟨(Lib.join ([t].map (·.data.toList)) sep.data.toList).toArray⟩ : ByteArray) = t := by
  simp [Lib.join]

set_option maxHeartbeats 2000000 in
theorem texts_one {F : Nat → Prop} (k : Nat) (s : ByteArray) (v : Value) (w : World) (h1 : 1 ≤ k) (h6 : k ≤ 6) (hs : s.size ≤ 32) (hv : ItemsR F w v [(k, s)]) :
    Calls Tryz.prog 124 #[v, .func (.func 125) #[] #[]] w fun e w' => ∃ t : ByteArray, e = .returned (.string t) ∧ t.size ≤ 50 ∧ w.grownBy w' none := by
  obtain ⟨a, c, rfl, hc, hm⟩ := hv.slice
  obtain ⟨g, o, rfl, hgs, c0, c1⟩ := hv.at_ (k := 0) (by simp)
  simp only [List.length_singleton, List.getElem_cons_zero, Nat.zero_mul, Nat.add_zero] at c0 c1 hc ⊢
  clear hv
  have hga := World.grownBy_alloc w (.cells #[.int .i64 (k : Int), .string s] 81) none
  have HI := itemText_any k s (w.alloc (.cells #[.int .i64 (k : Int), .string s] 81)) h1 h6 hs
  go_enter Tryz.func124, Tryz.ntmps124
  go_wp2_with fail
  refine wp_loop_rounds 2 ?_
  rw [rounds_succ]
  go_wp2_with fail
  refine HI.mono ?_
  clear HI
  rintro e w2 ⟨t, rfl, ht, hg2⟩
  have hg02 := gr_trans hga hg2
  go_wp2_with (at_builtin; refine app1 rfl _ _ 23 9 rfl Tryz.underlying23 (.string ⟨#[]⟩) 1 16 infoStr rfl (by decide) (World.ownsRow_nil w2 w.heap.size _ _) [.string t] rfl rfl rfl (by intro u hu; simp at hu; subst hu; rfl) hg02.size (by omega) (by unfold maxLen; omega) ?_)
  intro v1 w3 hown hg3 _ hne
  have hg03 := gr_trans' hg02 hg3 (by simp [Value.ownBlock])
  obtain ⟨g1, cap, cur, rfl, hb, hh, hn, hcm, hcs, htk⟩ : ∃ g cap cur, v1 = .slice (some ⟨g, 0, none⟩) 1 cap ∧ w.heap.size ≤ g ∧ w3.heap[g]? = some (.cells cur 9 (0, 0)) ∧ 1 ≤ cap ∧ cap ≤ maxLen ∧ cur.size = cap * 1 ∧ cur.toList.take (1 * 1) = [] ++ [.string t] := by
    rcases hown.2 with ⟨h, _⟩ | h
    · exact absurd h hne
    · obtain ⟨g, cap, cur, h⟩ := h
      exact ⟨g, cap, cur, h⟩
  have hcell : w3.cell? ⟨g1, 0 + 0, none⟩ = some (.string t) := by
    have hc := hown.cells (g := g1) rfl 0 _ rfl
    exact hc
  have HJ := Tryz.strings_Join g1 0 cap [t] (⟨#[44, 32]⟩ : ByteArray) w3 (fun j x hj => by
    cases j with
    | zero => simp at hj; subst hj; exact hcell
    | succ j => simp at hj) (blk_lt hh) (by simp) hn (by simp [Lib.join]; have : t.data.toList.length = t.size := rfl; omega)
  rw [join_one] at HJ
  clear hcell hown htk hcs
  go_wp2_with fail
  rw [rounds_succ]
  go_wp2_with fail
  refine HJ.mono ?_
  rintro e w4 ⟨rfl, hb4⟩
  go_wp2_with fail
  go_ret
  exact ⟨t, rfl, ht, gr_trans hg03 (gr_below hb4 _)⟩

abbrev factsB : ByteArray := (⟨#[102, 97, 99, 116, 115]⟩ : ByteArray)
theorem right_one (k : Nat) (s : ByteArray) (h : rightB [(k, s)] factsB false [] true = true) : 1 ≤ k ∧ k ≤ 6 ∧ s.size ≤ 32 := by
  simp [rightB, itemB] at h
  obtain ⟨-, ⟨⟨h1, h2⟩, h3⟩, h4⟩ := h
  refine ⟨h1, h2, ?_⟩
  rcases h4 with h4 | h4
  · have : s.toList.isEmpty = true := by rw [← h3]; simp [h4]
    have := (toList_empty s).1 this
    omega
  · exact isNameB_size h4

set_option maxHeartbeats 2000000 in
theorem Show_one {F : Nat → Prop} (k : Nat) (s : ByteArray) (v : Value) (w : World) (hG : Glob w) (hF : ∀ k, F k → k < w.heap.size) (hv : ItemsR F w v [(k, s)]) :
    Calls Tryz.prog 79 #[.agg #[v, .string factsB, .pointer none, .bool false, .slice none 0 0]] w fun e w' => ∃ (t : ByteArray) (n : Int), e = .returned (.tuple #[.string t, .int .i64 n]) ∧ t.size ≤ 4096 ∧ w.grownBy w' none := by
  obtain ⟨a, c, rfl, hc, hm⟩ := hv.slice
  have hg1 := World.grownBy_alloc w (.cells #[.slice a [(k, s)].length c, .string factsB, .pointer none, .bool false, .slice none 0 0] 45) none
  have b1 := heap_new w (.cells #[.slice a [(k, s)].length c, .string factsB, .pointer none, .bool false, .slice none 0 0] 45) _ rfl
  have HR := Right_any (bw := true) (table := factsB) (grouped := false) (groups := []) (pw := none) (vg := .slice none 0 0) (hG.keepN hg1) (hv.keep hg1 (by simp)) ⟨[], rfl, by simp, Rd.nil F _⟩ (fun W nb _ _ _ => (walk_nil 1 _ _ W).mono fun e w' h => ⟨h.1, by rw [← h.2]; exact gr_refl _ _⟩)
  have hone := right_one k s
  have HT := fun W (hg : w.grownBy W none) h1 h6 hs => texts_one k s _ W h1 h6 hs (hv.keep hg (by simp))
  generalize rightB [(k, s)] factsB false [] true = r at *
  simp only [List.length_singleton] at *
  clear hv
  cases r
  · go_enter Tryz.func79, Tryz.ntmps79
    go_wp2_with fail
    refine HR.mono ?_
    rintro e w2 ⟨rfl, hg2⟩
    go_wp2_with fail
    go_ret2
    exact ⟨_, _, rfl, by decide, gr_trans hg1 hg2⟩
  · obtain ⟨h1, h6, hs⟩ := hone rfl
    clear hone
    go_enter Tryz.func79, Tryz.ntmps79
    go_wp2_with fail
    generalize (w.alloc _) = W at *
    refine HR.mono ?_
    clear HR
    rintro e w2 ⟨rfl, hg2⟩
    have b2 := gr_blk hg2 b1 (by simp)
    have hg02 := gr_trans hg1 hg2
    clear b1 hg1 hg2 hG
    have q0 := blk_cell (l := [_, _, _, _, _]) b2 0 _ rfl
    have q1 := blk_cell (l := [_, _, _, _, _]) b2 1 _ rfl
    have hgs := blk_lt b2
    go_wp2_with fail
    have HT1 := HT w2.drew (gr_drew hg02) h1 h6 hs
    go_region_held3 (fun w' => w'.cell? ⟨w.heap.size, 0, none⟩ = some (.slice a 1 c) ∧ w'.cell? ⟨w.heap.size, 1, none⟩ = some (.string factsB)) (first | exact ⟨q0, q1⟩ | exact ⟨blk_cell (l := [_, _, _, _, _]) b3 0 _ rfl, blk_cell (l := [_, _, _, _, _]) b3 1 _ rfl⟩) (first | (go_at_call 124; refine HT1.mono ?_; rintro e w3 ⟨t, rfl, ht, hg3⟩; have b3 := gr_blk (w := w2.drew) hg3 b2 (by simp); have n1 : ¬ (9223372036854775807 < 7 + t.size) := (by omega); have n2 : ¬ (9223372036854775807 < 7 + t.size + 6) := (by omega); have n3 : ¬ (9223372036854775807 < 7 + t.size + 6 + 5) := (by omega)))
    clear HT1 HT q0 q1
    have hsz : ((⟨#[83, 69, 76, 69, 67, 84, 32]⟩ : ByteArray) ++ t ++ (⟨#[32, 70, 82, 79, 77, 32]⟩ : ByteArray) ++ (⟨#[102, 97, 99, 116, 115]⟩ : ByteArray)).size = 7 + t.size + 6 + 5 := by rw [size_app, size_app, size_app]; rfl
    have q2 := blk_cell (l := [_, _, _, _, _]) b3 2 _ rfl
    have q3 := blk_cell (l := [_, _, _, _, _]) b3 3 _ rfl
    have hg03 := gr_trans (gr_drew hg02) hg3
    generalize ((⟨#[83, 69, 76, 69, 67, 84, 32]⟩ : ByteArray) ++ t ++ (⟨#[32, 70, 82, 79, 77, 32]⟩ : ByteArray) ++ (⟨#[102, 97, 99, 116, 115]⟩ : ByteArray)) = tt at *
    have hgs3 := blk_lt b3
    clear b2 hg02 hg3 hgs
    have htt : tt.size ≤ 4096 := by omega
    clear n1 n2 n3 hsz
    go_wp2_with fail
    go_ret2
    exact ⟨tt, _, rfl, htt, hg03⟩
end Go.Proofs.YtoilgmdfbibniaaGreatDoor
