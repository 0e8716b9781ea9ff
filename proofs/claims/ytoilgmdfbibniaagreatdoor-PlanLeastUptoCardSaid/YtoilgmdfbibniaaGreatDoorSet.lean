/- package parse: a set of grouping sets. -/
import Derived.Test.YtoilgmdfbibniaaGreatDoorNames
import Derived.Test.YtoilgmdfbibniaaGreatDoorHead
import Derived.IntWalk
set_option linter.unusedSimpArgs false
set_option linter.unusedVariables false
set_option maxRecDepth 20000
namespace Go.Proofs.YtoilgmdfbibniaaGreatDoor
open Go Go.RowKit

def openB : ByteArray := (⟨#[40]⟩ : ByteArray)
def pairL : List ByteArray := [(⟨#[40]⟩ : ByteArray), (⟨#[41]⟩ : ByteArray)]
def closeAt (ws : List W3) (p : Nat) : Bool := match ws[p]? with
  | some y => y.1 == 5 && decide (y.2.1 = (⟨#[41]⟩ : ByteArray))
  | none => false
def setF (ws : List W3) (p : Nat) : Option (List ByteArray × Nat) := match ws[p]? with
  | none => none
  | some x => if x.1 = 1 then some ([x.2.1], p + 1)
    else if isW x openB = true ∧ closeAt ws (p + 1) = true then match mustN ws p pairL with
      | some q => some ([], q)
      | none => none
    else namesF ws p

set_option maxHeartbeats 1000000 in
theorem set_one {v : Value} {rb : Nat} {ws : List W3} (he : EndOk ws) : OneOk 164 v rb ws (repStrs rb) (setF ws) := by
  intro p w h hp h9
  have hx : ws[p]? = some ws[p] := List.getElem?_eq_getElem hp
  have hrl := h.lt
  by_cases h1 : ws[p].1 = 1
  · have HE : Hid (setF ws p = some ([ws[p].2.1], p + 1)) := by unfold Hid; simp [setF, hx, h1]
    have hq := he p _ hx (by omega)
    generalize ws[p] = x at *
    obtain ⟨x1, x2, x3⟩ := x
    simp only at h1 HE
    subst h1
    go_enter Tryz.func164, Tryz.ntmps164
    go_wp2_with fail
    refine (word_any h hx).mono ?_
    rintro e w2 ⟨rfl, hg2⟩
    have ha2 := h.keep hg2
    go_wp2_with fail
    rw [field_kind]
    go_wp2_with fail
    refine (name_any ha2 hx).mono ?_
    rintro e w3 (⟨_, rfl, hg3, ha3⟩ | ⟨h, _⟩)
    · have hg := gr_trans (gr_some hg2 (some rb)) hg3
      have hg4 := World.grownBy_alloc w3 (.cells #[.string x2] 9) none
      have hb := heap_new w3 (.cells #[.string x2] 9) _ rfl
      have hsz := hg.size
      have hrs : repStrs rb (w3.alloc (.cells #[.string x2] 9)) (.slice (some ⟨w3.heap.size, 0, none⟩) 1 1) [x2] :=
        ⟨strs_blk (l := [x2]) hb ⟨by omega, by omega, by unfold tyOf; rw [hb]⟩ rfl (by unfold maxLen; omega), by simp⟩
      go_wp2_with fail
      go_ret
      exact .inl ⟨p + 1, [x2], _, HE.out, by omega, hq, rfl, hrs, gr_trans hg (gr_some hg4 _), ha3.keep hg4⟩
    · exact absurd rfl h
  · have HE : Hid (setF ws p = if isW ws[p] openB = true ∧ closeAt ws (p + 1) = true then (match mustN ws p pairL with
      | some q => some ([], q)
      | none => none)
    else namesF ws p) := by unfold Hid; rw [setF, hx]; simp only [if_neg h1]
    have hqk : isW ws[p] openB = true → p + 1 < ws.length := fun e => he p _ hx (isW_kind e)
    have HN := fun (W : World) (hg : w.grownBy W none) => names_one (v := v) (rb := rb) he p W (h.keep hg) hp (by have := hg.size; omega)
    have HI := fun (W : World) (hg : w.grownBy W none) => is_any (h.keep hg) hx openB
    have HW := word_any h hx
    generalize isW ws[p] openB = bo at *
    generalize ws[p] = x at *
    obtain ⟨x1, x2, x3⟩ := x
    simp only at h1 HW
    have h1' : ((x1 : Int) == 1) = false := by simp; omega
    cases bo
    · have HE2 : Hid (setF ws p = namesF ws p) := by unfold Hid; rw [HE.out, if_neg (by simp)]
      clear HE hqk
      go_enter Tryz.func164, Tryz.ntmps164
      go_wp2_with fail
      refine HW.mono ?_
      rintro e w2 ⟨rfl, hg2⟩
      clear HW
      go_wp2_with fail
      rw [field_kind]
      go_wp2_with fail
      have hg2d := gr_drew hg2
      refine head_still 3 31 (by kernel_rfl) (by kernel_rfl) (fun Q2 hQ2 hQp => ?_)
      simp only [List.take_succ_cons, List.take_zero, List.drop_succ_cons, List.drop_zero]
      generalize w2.drew = w2d at *
      go_wp2_with fail
      refine (HI _ hg2d).mono ?_
      rintro e w3 ⟨rfl, hg3⟩
      have hg23 := gr_trans hg2d hg3
      clear HI hg2d hg3
      go_wp2_with fail
      refine hQ2 _ _ ?_
      clear hQ2 hQp Q2
      simp only [List.take_succ_cons, List.take_zero, List.drop_succ_cons, List.drop_zero]
      iterate 13 (refine StillG.skip ?_ ?_; kernel_rfl)
      iterate 2 (refine StillG.want ?_ (fun K hK => ?_); kernel_rfl; go_simp; refine hK _ ?_; clear hK K)
      iterate 13 (refine StillG.skip ?_ ?_; kernel_rfl)
      refine StillG.nil ?_
      go_wp2_with fail
      refine (HN _ hg23).mono ?_
      clear HN
      rintro e w4 (⟨q, ys, u, hm, hpq, hql, rfl, hrep, hg4, ha4⟩ | ⟨hm, c, a, rfl, hc, hg4⟩)
      · obtain ⟨ac, cc, rfl, -, -, -⟩ := id hrep.1
        go_wp2_with fail
        go_ret
        exact .inl ⟨q, ys, _, by rw [HE2.out]; exact hm, hpq, hql, rfl, hrep, gr_trans (gr_some hg23 _) hg4, ha4⟩
      · go_wp2_with fail
        exact ⟨rfl, .inr ⟨by rw [HE2.out]; exact hm, c, a, rfl, hc, gr_trans (gr_some hg23 _) hg4⟩⟩
    · have hp1 := hqk rfl
      have hx1 : ws[p + 1]? = some ws[p + 1] := List.getElem?_eq_getElem hp1
      have hcl : Hid (closeAt ws (p + 1) = (ws[p + 1].1 == 5 && decide (ws[p + 1].2.1 = (⟨#[41]⟩ : ByteArray)))) := by unfold Hid closeAt; rw [hx1]
      have hwc := wCells_at ws (p + 1) _ hx1
      have hll := h.2.2
      have hat : ∀ W, w.grownBy W none → ∃ g o c, v = .slice (some ⟨g, o, none⟩) ws.length c ∧ ws.length ≤ c ∧ c ≤ maxLen ∧ g < W.heap.size ∧ W.cell? ⟨rb, 0, none⟩ = some v ∧ W.cell? ⟨rb, 1, none⟩ = some (.int .i64 (p : Int)) ∧ W.cell? ⟨g, o + (p + 1) * 3, none⟩ = some (.int .i64 (ws[p + 1].1 : Int)) ∧ W.cell? ⟨g, o + (p + 1) * 3 + 1, none⟩ = some (.string ws[p + 1].2.1) := by
        intro W hg
        have ha := h.keep hg
        obtain ⟨a, c, hv, hnc, hcm, _⟩ := id ha.2.1
        have hr := ha.2.1
        rw [hv] at hr
        obtain ⟨g, o, rfl, hgr, hgs, hcells⟩ := hr.at_ (j := (p + 1) * 3) (by rw [wCells_length]; omega)
        exact ⟨g, o, c, hv, hnc, hcm, hgs, blk_cell (l := [_, _]) ha.1 0 _ rfl, blk_cell (l := [_, _]) ha.1 1 _ rfl, hcells _ _ hwc.1, by rw [Nat.add_assoc]; exact hcells _ _ hwc.2.1⟩
      have HM := fun (W : World) (hg : w.grownBy W none) (sv : Value) (hs : StrsR (· ≠ rb) W sv pairL) => must_any he (h.keep hg) hp hs
      have hHN := HN
      go_enter Tryz.func164, Tryz.ntmps164
      go_wp2_with fail
      refine HW.mono ?_
      rintro e w2 ⟨rfl, hg2⟩
      clear HW
      go_wp2_with fail
      rw [field_kind]
      go_wp2_with fail
      have hg2d := gr_drew hg2
      refine head_still 3 31 (by kernel_rfl) (by kernel_rfl) (fun Q2 hQ2 hQp => ?_)
      simp only [List.take_succ_cons, List.take_zero, List.drop_succ_cons, List.drop_zero]
      generalize w2.drew = w2d at *
      go_wp2_with fail
      refine (HI _ hg2d).mono ?_
      rintro e w3 ⟨rfl, hg3⟩
      have hg23 := gr_trans hg2d hg3
      clear HI hg2d hg3
      obtain ⟨g, o, c, rfl, hnc, hcm, hgs, r0, r1, q0, q1⟩ := hat w3 hg23
      unfold maxLen at hcm
      clear hat hwc h hx
      have hi0 : (0 : Int) ≤ (p : Int) + 1 := by omega
      have hi1 : (p : Int) + 1 < (ws.length : Int) := by omega
      have hw1 : IntKind.i64.wrap ((p : Int) + 1) = (p : Int) + 1 := IntWalk.i64_in _ (by omega)
      have hw2 : ((p : Int) + 1).toNat = p + 1 := by omega
      generalize ws[p + 1] = y at *
      obtain ⟨y1, y2, y3⟩ := y
      simp only at hcl q0 q1
      go_wp2_with fail
      refine hQ2 _ _ ?_
      clear hQ2 hQp Q2
      simp only [List.take_succ_cons, List.take_zero, List.drop_succ_cons, List.drop_zero]
      by_cases h5 : y1 = 5
      · subst h5
        by_cases ht : y2 = (⟨#[41]⟩ : ByteArray)
        · subst ht
          have HE2 : Hid (setF ws p = match mustN ws p pairL with
            | some q => some ([], q)
            | none => none) := by unfold Hid; rw [HE.out, hcl.out, if_pos ⟨trivial, by simp⟩]
          clear HE hcl HN hHN
          iterate 28 (refine StillG.want ?_ (fun K hK => ?_); kernel_rfl; go_simp; refine hK _ ?_; clear hK K)
          refine StillG.nil ?_
          clear hw1 hw2 hi0 hi1 r0 r1 q0 q1
          have hg4 := World.grownBy_alloc w3 (.cells (pairL.map Value.string).toArray 9) none
          have hbs := heap_new w3 (.cells (pairL.map Value.string).toArray 9) _ rfl
          have hsz := hg23.size
          have HM1 := HM _ (gr_trans hg23 hg4) (.slice (some ⟨w3.heap.size, 0, none⟩) 2 2) (strs_blk hbs (by show w3.heap.size ≠ rb; omega) rfl (by unfold maxLen; omega))
          have hlt1 := fun q => mustN_gt (q := q) (s := (⟨#[40]⟩ : ByteArray)) (l := [(⟨#[41]⟩ : ByteArray)]) he hp
          have hlt2 := mustN_lt he pairL p
          have hg34 := gr_trans hg23 hg4
          clear HM hbs hg4 hg23
          go_wp2_with fail
          refine HM1.mono ?_
          clear HM1
          rintro e w4 (⟨q, hm, rfl, hg4, ha4⟩ | ⟨hm, c, a, rfl, hc, hg4⟩)
          · have h1 := hlt1 q hm
            have h2 := (hlt2 q hp hm).1
            go_wp2_with fail
            go_ret
            exact .inl ⟨q, [], _, by rw [HE2.out, hm], h1, h2, rfl, ⟨Rd.nil _ _, by simp⟩, gr_trans (gr_some hg34 _) hg4, ha4⟩
          · go_wp2_with fail
            exact ⟨rfl, .inr ⟨by rw [HE2.out, hm], c, a, rfl, hc, gr_trans (gr_some hg34 _) hg4⟩⟩
        · have hst : (y2.toList == [41]) = false := by
            have h := streq_no ht
            rwa [show (⟨#[41]⟩ : ByteArray).toList = [41] by rw [ByteArray.toList_eq]] at h
          have HE2 : Hid (setF ws p = namesF ws p) := by unfold Hid; rw [HE.out, hcl.out, if_neg (by simp [ht])]
          clear HE hcl HM ht
          iterate 28 (refine StillG.want ?_ (fun K hK => ?_); kernel_rfl; go_simp; refine hK _ ?_; clear hK K)
          refine StillG.nil ?_
          clear hw1 hw2 hi0 hi1 r0 r1 q0 q1
          go_wp2_with fail
          refine (HN _ hg23).mono ?_
          clear HN hHN
          rintro e w4 (⟨q, ys, u, hm, hpq, hql, rfl, hrep, hg4, ha4⟩ | ⟨hm, c, a, rfl, hc, hg4⟩)
          · obtain ⟨ac, cc, rfl, -, -, -⟩ := id hrep.1
            go_wp2_with fail
            go_ret
            exact .inl ⟨q, ys, _, by rw [HE2.out]; exact hm, hpq, hql, rfl, hrep, gr_trans (gr_some hg23 _) hg4, ha4⟩
          · go_wp2_with fail
            exact ⟨rfl, .inr ⟨by rw [HE2.out]; exact hm, c, a, rfl, hc, gr_trans (gr_some hg23 _) hg4⟩⟩
      · have h5' : ((y1 : Int) == 5) = false := by simp; omega
        have HE2 : Hid (setF ws p = namesF ws p) := by unfold Hid; rw [HE.out, hcl.out, if_neg (by simp [h5])]
        clear HE hcl HM h5
        iterate 15 (refine StillG.want ?_ (fun K hK => ?_); kernel_rfl; go_simp; refine hK _ ?_; clear hK K)
        iterate 13 (refine StillG.skip ?_ ?_; kernel_rfl)
        refine StillG.nil ?_
        clear hw1 hw2 hi0 hi1 r0 r1 q0 q1
        go_wp2_with fail
        refine (HN _ hg23).mono ?_
        clear HN hHN
        rintro e w4 (⟨q, ys, u, hm, hpq, hql, rfl, hrep, hg4, ha4⟩ | ⟨hm, c, a, rfl, hc, hg4⟩)
        · obtain ⟨ac, cc, rfl, -, -, -⟩ := id hrep.1
          go_wp2_with fail
          go_ret
          exact .inl ⟨q, ys, _, by rw [HE2.out]; exact hm, hpq, hql, rfl, hrep, gr_trans (gr_some hg23 _) hg4, ha4⟩
        · go_wp2_with fail
          exact ⟨rfl, .inr ⟨by rw [HE2.out]; exact hm, c, a, rfl, hc, gr_trans (gr_some hg23 _) hg4⟩⟩
end Go.Proofs.YtoilgmdfbibniaaGreatDoor
