/- package parse: an element of a GROUP BY. -/
import Derived.Test.YtoilgmdfbibniaaGreatDoorSet
import Derived.Test.YtoilgmdfbibniaaGreatDoorGrp
set_option linter.unusedSimpArgs false
set_option linter.unusedVariables false
set_option maxRecDepth 20000
namespace Go.Proofs.YtoilgmdfbibniaaGreatDoor
open Go Go.RowKit

/-- sets that the reader has made -/
def repSets (rb : Nat) (w : World) (u : Value) (l : List (List ByteArray)) : Prop := SliceRep (repStrs rb) (fun b => b ≠ rb ∧ 9 ≤ b ∧ tyOf w b = some 23) w u l ∧ l.length ≤ 4097
theorem repSets_keeps {rb : Nat} {t : TypeId} (ht : t ≠ 9) (ht2 : t ≠ 23) : Keeps rb t (repSets rb) := by
  intro w w' u y r h hg hr
  have hne : ∀ k, k ≠ rb ∧ 9 ≤ k ∧ tyOf w k = some 23 → some k ≠ r := by
    intro k hk e
    rcases hr k e.symm with h | h
    · exact hk.1 h
    · rw [hk.2.2] at h; exact ht2 (by cases h; rfl)
  refine ⟨?_, h.2⟩
  obtain ⟨us, hl, hreps, hrd⟩ := h.1
  refine ⟨us, hl, fun i u y hu hy => repStrs_keeps ht w w' u y r (hreps i u y hu hy) hg hr, ?_⟩
  obtain ⟨a, c, hv, hn, hm, hc⟩ := hrd
  refine ⟨a, c, hv, hn, hm, ?_⟩
  rcases hc with hc | ⟨g, o, ha, hf, hc⟩
  · exact .inl hc
  · exact .inr ⟨g, o, ha, ⟨hf.1, hf.2.1, tyOf_keep hg hf.2.2 (hne g hf)⟩, fun j u hj => hg.cell (hc j u hj) (hne g hf)⟩
def repGroup (rb : Nat) (w : World) (u : Value) (g : GroupS) : Prop := ∃ vc vs, u = .agg #[.int .i64 (g.1 : Int), vc, vs] ∧ repStrs rb w vc g.2.1 ∧ repSets rb w vs g.2.2
theorem repGroup_keeps {rb : Nat} {t : TypeId} (ht : t ≠ 9) (ht2 : t ≠ 23) : Keeps rb t (repGroup rb) := by
  intro w w' u y r ⟨vc, vs, hu, h1, h2⟩ hg hr
  exact ⟨vc, vs, hu, repStrs_keeps ht w w' _ _ r h1 hg hr, repSets_keeps ht ht2 w w' _ _ r h2 hg hr⟩
theorem repStrs_nil (rb : Nat) (w : World) : repStrs rb w (.slice none 0 0) [] := ⟨Rd.nil _ _, by simp⟩
theorem repSets_nil (rb : Nat) (w : World) : repSets rb w (.slice none 0 0) [] := ⟨⟨[], rfl, by simp, Rd.nil _ _⟩, by simp⟩
theorem repStrs.slice {rb : Nat} {w : World} {v : Value} {l : List ByteArray} (h : repStrs rb w v l) : ∃ a c, v = .slice a l.length c := by
  obtain ⟨⟨a, c, e, _⟩, _⟩ := h; exact ⟨a, c, e⟩
theorem repSets.slice {rb : Nat} {w : World} {v : Value} {l : List (List ByteArray)} (h : repSets rb w v l) : ∃ a c, v = .slice a l.length c := by
  obtain ⟨⟨_, _, _, a, c, e, _⟩, _⟩ := h; exact ⟨a, c, e⟩

def elemsL : List ByteArray := [(⟨#[82, 79, 76, 76, 85, 80]⟩ : ByteArray), (⟨#[67, 85, 66, 69]⟩ : ByteArray), (⟨#[71, 82, 79, 85, 80, 73, 78, 71]⟩ : ByteArray)]
def setsL : List ByteArray := [(⟨#[83, 69, 84, 83]⟩ : ByteArray), (⟨#[40]⟩ : ByteArray)]
def elementF (ws : List W3) (p : Nat) : Option (GroupS × Nat) := match ws[p]? with
  | none => none
  | some x => if x.1 = 1 then some ((1, [x.2.1], []), p + 1)
    else if idxW x elemsL 0 = 0 then (match namesF ws (p + 1) with
      | some (l, q) => some ((2, l, []), q)
      | none => none)
    else if idxW x elemsL 0 = 1 then (match namesF ws (p + 1) with
      | some (l, q) => some ((3, l, []), q)
      | none => none)
    else if idxW x elemsL 0 = 2 then match mustN ws (p + 1) setsL with
      | none => none
      | some q => match sevF ws (setF ws) q with
        | none => none
        | some (yss, q1) => match mustN ws q1 closeL with
          | none => none
          | some q2 => some ((4, [], yss), q2)
    else none

/-- the result's block, written -/
theorem elem_done {v : Value} {rb : Nat} {ws : List W3} {q : Nat} {w W : World} {b : Nat} {g : GroupS} {vc vs : Value} {x0 x1 x2 : Value} (hrb : rb < b) (hb : W.heap[b]? = some (.cells #[x0, x1, x2] 91 (0, 0))) (hwb : w.heap.size ≤ b) (hg : w.grownBy W (some rb)) (ha : AtR v rb ws q W) (h1 : repStrs rb W vc g.2.1) (h2 : repSets rb W vs g.2.2) :
    repGroup rb (((W.setCell ⟨b, 0, none⟩ (.int .i64 (g.1 : Int))).setCell ⟨b, 1, none⟩ vc).setCell ⟨b, 2, none⟩ vs) (.agg #[.int .i64 (g.1 : Int), vc, vs]) g ∧ w.grownBy (((W.setCell ⟨b, 0, none⟩ (.int .i64 (g.1 : Int))).setCell ⟨b, 1, none⟩ vc).setCell ⟨b, 2, none⟩ vs) (some rb) ∧ AtR v rb ws q (((W.setCell ⟨b, 0, none⟩ (.int .i64 (g.1 : Int))).setCell ⟨b, 1, none⟩ vc).setCell ⟨b, 2, none⟩ vs) := by
  have ht : tyOf W b = some 91 := by unfold tyOf; rw [hb]
  have hgg : W.grownBy (((W.setCell ⟨b, 0, none⟩ (.int .i64 (g.1 : Int))).setCell ⟨b, 1, none⟩ vc).setCell ⟨b, 2, none⟩ vs) (some b) := gr_setR (p := ⟨b, 2, none⟩) (gr_setR (p := ⟨b, 1, none⟩) (gr_setR (p := ⟨b, 0, none⟩) (gr_refl W _) rfl _) rfl _) rfl _
  have hk : ∀ k, some b = some k → k = rb ∨ tyOf W k = some 91 := fun k e => .inr (by cases e; exact ht)
  have h3 := gr_set (p := ⟨b, 2, none⟩) (gr_set (p := ⟨b, 1, none⟩) (gr_set (p := ⟨b, 0, none⟩) hg hwb (.int .i64 (g.1 : Int))) hwb vc) hwb vs
  have h4 := ((ha.put2 hrb 0 (.int .i64 (g.1 : Int))).put2 hrb 1 vc).put2 hrb 2 vs
  generalize ((World.setCell _ _ _).setCell _ _) = W2 at *
  have h5 : repStrs rb W2 vc g.2.1 := repStrs_keeps (t := 91) (by decide) W W2 vc g.2.1 (some b) h1 hgg hk
  have h6 : repSets rb W2 vs g.2.2 := repSets_keeps (t := 91) (by decide) (by decide) W W2 vs g.2.2 (some b) h2 hgg hk
  exact ⟨⟨vc, vs, rfl, h5, h6⟩, h3, h4⟩

set_option maxHeartbeats 2000000 in
theorem element_one {v : Value} {rb : Nat} {ws : List W3} (he : EndOk ws) : OneOk 117 v rb ws (repGroup rb) (elementF ws) := by
  intro p w h hp h9
  have hx : ws[p]? = some ws[p] := List.getElem?_eq_getElem hp
  have hrl := h.lt
  have hga := World.grownBy_alloc w (.cells #[.int .i64 0, .slice none 0 0, .slice none 0 0] 91) none
  have hb := heap_new w (.cells #[.int .i64 0, .slice none 0 0, .slice none 0 0] 91) _ rfl
  have hsz : (w.alloc (.cells #[.int .i64 0, .slice none 0 0, .slice none 0 0] 91)).heap.size = w.heap.size + 1 := by simp
  have ha := h.keep hga
  clear h
  by_cases h1 : ws[p].1 = 1
  · have HE : Hid (elementF ws p = some ((1, [ws[p].2.1], []), p + 1)) := by unfold Hid; simp [elementF, hx, h1]
    have hq := he p _ hx (by omega)
    generalize ws[p] = x at *
    obtain ⟨x1, x2, x3⟩ := x
    simp only at h1 HE
    subst h1
    go_enter Tryz.func117, Tryz.ntmps117
    go_wp2_with fail
    generalize (w.alloc _) = w1 at *
    refine (word_any ha hx).mono ?_
    rintro e w2 ⟨rfl, hg2⟩
    have ha2 := ha.keep hg2
    have hb2 := gr_blk hg2 hb (by simp)
    go_wp2_with fail
    rw [field_kind]
    go_wp2_with fail
    refine (name_any ha2 hx).mono ?_
    rintro e w3 (⟨_, rfl, hg3, ha3⟩ | ⟨h, _⟩)
    · have hb3 := heap_old _ (.cells #[.string x2] 9) _ _ (gr_blk hg3 hb2 (by simp; omega))
      have hg0 := gr_trans (gr_some (gr_trans hga hg2) (some rb)) hg3
      have hg4 := World.grownBy_alloc w3 (.cells #[.string x2] 9) none
      have hbs := heap_new w3 (.cells #[.string x2] 9) _ rfl
      have hg := gr_trans hg0 (gr_some hg4 (some rb))
      have hsz3 := hg0.size
      have hrs : repStrs rb (w3.alloc (.cells #[.string x2] 9)) (.slice (some ⟨w3.heap.size, 0, none⟩) 1 1) [x2] :=
        ⟨strs_blk (l := [x2]) hbs ⟨by omega, by omega, by unfold tyOf; rw [hbs]⟩ rfl (by unfold maxLen; omega), by simp⟩
      have hd := elem_done (w := w) (g := (1, [x2], [])) hrl hb3 (Nat.le_refl _) hg (ha3.keep hg4) hrs (repSets_nil rb _)
      clear hg0 hg4 hbs hrs hg ha3 hg3 ha2 hb2 hg2 ha
      have p0 := blk_cell (l := [_, _, _]) hb3 0 _ rfl
      have p1 := blk_cell (l := [_, _, _]) hb3 1 _ rfl
      have p2 := blk_cell (l := [_, _, _]) hb3 2 _ rfl
      have pf := blk_free hb3
      go_wp2_with fail
      refine bodyPost_ret (v := .agg #[.int .i64 1, (.slice (some ⟨w3.heap.size, 0, none⟩) 1 1), (.slice none 0 0)]) ?_ rfl ?_
      · have hbF := blk_set (blk_set (blk_set hb3 0 (.int .i64 1)) 1 (.slice (some ⟨w3.heap.size, 0, none⟩) 1 1)) 2 (.slice none 0 0)
        generalize (World.setCell _ _ _) = W at *
        have c0 := blk_cell (l := [_, _, _]) hbF 0 _ rfl
        have c1 := blk_cell (l := [_, _, _]) hbF 1 _ rfl
        have c2 := blk_cell (l := [_, _, _]) hbF 2 _ rfl
        simp [results, Tryz.results117, go_sem, c0, c1, c2]
      · exact .inl ⟨p + 1, ((1, [x2], []) : GroupS), _, HE.out, by omega, hq, rfl, hd.1, hd.2.1, hd.2.2⟩
    · exact absurd rfl h
  · have HE : Hid (elementF ws p = (if idxW ws[p] elemsL 0 = 0 then (match namesF ws (p + 1) with
      | some (l, q) => some ((2, l, []), q)
      | none => none)
    else if idxW ws[p] elemsL 0 = 1 then (match namesF ws (p + 1) with
      | some (l, q) => some ((3, l, []), q)
      | none => none)
    else if idxW ws[p] elemsL 0 = 2 then match mustN ws (p + 1) setsL with
      | none => none
      | some q => match sevF ws (setF ws) q with
        | none => none
        | some (yss, q1) => match mustN ws q1 closeL with
          | none => none
          | some q2 => some ((4, [], yss), q2)
    else none)) := by unfold Hid; rw [elementF, hx]; simp only [if_neg h1]
    have hi := idxW_range ws[p] elemsL 0
    have hnw : nextW ws[p] elemsL p = if 0 ≤ idxW ws[p] elemsL 0 then p + 1 else p := rfl
    have hqk : 0 ≤ idxW ws[p] elemsL 0 → p + 1 < ws.length := fun h => he p _ hx (idxW_kind h)
    generalize elementF ws p = r at *
    have hTk := fun (W : World) (hg : (w.alloc (.cells #[.int .i64 0, .slice none 0 0, .slice none 0 0] 91)).grownBy W none) (sv : Value) (hs : StrsR (fun _ => True) W sv elemsL) => take_any (ha.keep hg) hx hs
    rw [hnw] at hTk
    generalize idxW ws[p] elemsL 0 = i at *
    have hfr := fun (W : World) (hg : (w.alloc (.cells #[.int .i64 0, .slice none 0 0, .slice none 0 0] 91)).grownBy W none) => word_any (ha.keep hg) hx
    generalize ws[p] = x at *
    obtain ⟨x1, x2, x3⟩ := x
    simp only at h1
    have h1' : ((x1 : Int) == 1) = false := by simp; omega
    go_enter Tryz.func117, Tryz.ntmps117
    go_wp2_with fail
    generalize (w.alloc _) = w1 at *
    refine (hfr w1 (gr_refl _ _)).mono ?_
    rintro e w2 ⟨rfl, hg2⟩
    clear hfr
    have hb2 := gr_blk hg2 hb (by simp)
    have hga2 := gr_trans hga hg2
    go_wp2_with fail
    rw [field_kind]
    have hg3 := gr_alloc hg2 (.cells (elemsL.map Value.string).toArray 9)
    have hbs := heap_new w2 (.cells (elemsL.map Value.string).toArray 9) _ rfl
    have HT := hTk _ hg3 (.slice (some ⟨w2.heap.size, 0, none⟩) 3 3) (strs_blk hbs trivial rfl (by unfold maxLen; omega))
    have hb3 := heap_old _ (.cells (elemsL.map Value.string).toArray 9) _ _ hb2
    have hga3 := gr_alloc hga2 (.cells (elemsL.map Value.string).toArray 9)
    clear hTk hbs hb2 hga2 hb hga hnw
    go_wp2_with fail
    refine HT.mono ?_
    rintro e w4 ⟨rfl, hg4, ha4⟩
    clear HT
    have hb4 := gr_blk hg4 hb3 (by simp; omega)
    have hg04 := gr_trans (gr_some hga3 (some rb)) hg4
    have hsz4 := hg04.size
    clear hb3 hg4 hga3 hg3 hg2
    by_cases him : i = -1
    · subst him
      rw [if_neg (by decide)] at ha4
      have HF := fail_reader ha4 hx 41
      have HE2 : Hid (r = none) := by unfold Hid; rw [HE.out]; rfl
      clear HE
      go_wp2_with fail
      refine HF.mono ?_
      rintro e w5 ⟨rfl, hg5⟩
      go_wp2_with fail
      exact ⟨rfl, .inr ⟨HE2.out, 41, _, rfl, by decide, gr_trans hg04 (gr_some hg5 _)⟩⟩
    · have hi0 : 0 ≤ i := by omega
      have hq1 := hqk hi0
      rw [if_pos hi0] at ha4
      have hi3 : i < 3 := by have : elemsL.length = 3 := rfl; omega
      by_cases hi0' : i = 0
      · subst hi0'
        have HN := names_one (v := v) (rb := rb) he (p + 1) w4 ha4 hq1 (by omega)
        have HE2 : Hid (r = match namesF ws (p + 1) with
          | some (l, q) => some ((2, l, []), q)
          | none => none) := by unfold Hid; rw [HE.out]; rfl
        clear HE
        go_wp2_with fail
        refine HN.mono ?_
        clear HN
        rintro e w6 (⟨q, l, u, hm, hqq, hq1l, rfl, hrep, hg6, ha6⟩ | ⟨hm, c, a, rfl, hc, hg6⟩)
        · have hb6 := gr_blk hg6 hb4 (by simp; omega)
          have hg := gr_trans hg04 hg6
          have HE3 : Hid (r = some ((2, l, []), q)) := by unfold Hid; rw [HE2.out, hm]
          obtain ⟨ac, cc, rfl⟩ := hrep.slice
          have hd := elem_done (w := w) (g := (2, l, [])) hrl hb6 (Nat.le_refl _) hg ha6 hrep (repSets_nil rb w6)
          clear HE2 hb4 hg6 hg04
          have p0 := blk_cell (l := [_, _, _]) hb6 0 _ rfl
          have p1 := blk_cell (l := [_, _, _]) hb6 1 _ rfl
          have p2 := blk_cell (l := [_, _, _]) hb6 2 _ rfl
          have pf := blk_free hb6
          go_wp2_with fail
          refine bodyPost_ret (v := .agg #[.int .i64 2, (.slice ac l.length cc), (.slice none 0 0)]) ?_ rfl ?_
          · have hbF := blk_set (blk_set (blk_set hb6 0 (.int .i64 2)) 1 (.slice ac l.length cc)) 2 (.slice none 0 0)
            generalize (World.setCell _ _ _) = W at *
            have c0 := blk_cell (l := [_, _, _]) hbF 0 _ rfl
            have c1 := blk_cell (l := [_, _, _]) hbF 1 _ rfl
            have c2 := blk_cell (l := [_, _, _]) hbF 2 _ rfl
            simp [results, Tryz.results117, go_sem, c0, c1, c2]
          · exact .inl ⟨q, ((2, l, []) : GroupS), _, HE3.out, by omega, hq1l, rfl, hd.1, hd.2.1, hd.2.2⟩
        · go_wp2_with fail
          exact ⟨rfl, .inr ⟨by rw [HE2.out, hm], c, a, rfl, hc, gr_trans hg04 hg6⟩⟩
      · by_cases hi1 : i = 1
        · subst hi1
          have HN := names_one (v := v) (rb := rb) he (p + 1) w4 ha4 hq1 (by omega)
          have HE2 : Hid (r = match namesF ws (p + 1) with
            | some (l, q) => some ((3, l, []), q)
            | none => none) := by unfold Hid; rw [HE.out]; rfl
          clear HE
          go_wp2_with fail
          refine HN.mono ?_
          clear HN
          rintro e w6 (⟨q, l, u, hm, hqq, hq1l, rfl, hrep, hg6, ha6⟩ | ⟨hm, c, a, rfl, hc, hg6⟩)
          · have hb6 := gr_blk hg6 hb4 (by simp; omega)
            have hg := gr_trans hg04 hg6
            have HE3 : Hid (r = some ((3, l, []), q)) := by unfold Hid; rw [HE2.out, hm]
            obtain ⟨ac, cc, rfl⟩ := hrep.slice
            have hd := elem_done (w := w) (g := (3, l, [])) hrl hb6 (Nat.le_refl _) hg ha6 hrep (repSets_nil rb w6)
            clear HE2 hb4 hg6 hg04
            have p0 := blk_cell (l := [_, _, _]) hb6 0 _ rfl
            have p1 := blk_cell (l := [_, _, _]) hb6 1 _ rfl
            have p2 := blk_cell (l := [_, _, _]) hb6 2 _ rfl
            have pf := blk_free hb6
            go_wp2_with fail
            refine bodyPost_ret (v := .agg #[.int .i64 3, (.slice ac l.length cc), (.slice none 0 0)]) ?_ rfl ?_
            · have hbF := blk_set (blk_set (blk_set hb6 0 (.int .i64 3)) 1 (.slice ac l.length cc)) 2 (.slice none 0 0)
              generalize (World.setCell _ _ _) = W at *
              have c0 := blk_cell (l := [_, _, _]) hbF 0 _ rfl
              have c1 := blk_cell (l := [_, _, _]) hbF 1 _ rfl
              have c2 := blk_cell (l := [_, _, _]) hbF 2 _ rfl
              simp [results, Tryz.results117, go_sem, c0, c1, c2]
            · exact .inl ⟨q, ((3, l, []) : GroupS), _, HE3.out, by omega, hq1l, rfl, hd.1, hd.2.1, hd.2.2⟩
          · go_wp2_with fail
            exact ⟨rfl, .inr ⟨by rw [HE2.out, hm], c, a, rfl, hc, gr_trans hg04 hg6⟩⟩
        · obtain rfl : i = 2 := by omega
          have HE2 : Hid (r = match mustN ws (p + 1) setsL with
            | none => none
            | some q => match sevF ws (setF ws) q with
              | none => none
              | some (yss, q1) => match mustN ws q1 closeL with
                | none => none
                | some q2 => some ((4, [], yss), q2)) := by unfold Hid; rw [HE.out]; rfl
          clear HE
          have hg5 := World.grownBy_alloc w4 (.cells (setsL.map Value.string).toArray 9) none
          have hbs := heap_new w4 (.cells (setsL.map Value.string).toArray 9) _ rfl
          have HM := must_any he (ha4.keep hg5) hq1 (sv := .slice (some ⟨w4.heap.size, 0, none⟩) 2 2) (strs_blk hbs (by show w4.heap.size ≠ rb; omega) rfl (by unfold maxLen; omega))
          have hb5 := heap_old _ (.cells (setsL.map Value.string).toArray 9) _ _ hb4
          have hg05 := gr_trans hg04 (gr_some hg5 (some rb))
          have hlt := mustN_lt he setsL (p + 1)
          clear hbs hb4 hg5 hg04 hi
          go_wp2_with fail
          refine HM.mono ?_
          clear HM
          rintro e w6 (⟨q, hm, rfl, hg6, ha6⟩ | ⟨hm, c, a, rfl, hc, hg6⟩)
          · have hb6 := gr_blk hg6 hb5 (by simp; omega)
            have hg06 := gr_trans hg05 hg6
            have hql := hlt q hq1 hm
            simp only [hm] at HE2
            have HS := several_Strs (m := 164) (fun args w => by kernel_rfl) he (rep := repStrs rb) (repStrs_keeps (by decide)) (fun w u y h => by obtain ⟨a, c, e⟩ := h.slice; exact ⟨a, _, c, e, rfl⟩) (set_one he) ha6 hql.1 (by have := hg06.size; omega)
            clear hb5 hg6 hg05 hlt hm
            go_wp2_with fail
            refine HS.mono ?_
            clear HS
            rintro e w7 (⟨q1, yss, u, hm, hqq, hq1l, hne, hyl, rfl, hrep, hg7, ha7⟩ | ⟨hm, c, a, rfl, hc, hg7⟩)
            · have hb7 := gr_blk hg7 hb6 (by simp; omega)
              have hg07 := gr_trans hg06 hg7
              simp only [hm] at HE2
              have hrs : repSets rb w7 u yss := ⟨hrep, hyl⟩
              obtain ⟨as1, cs1, rfl⟩ := hrs.slice
              have hsz7 := hg07.size
              go_wp2_with fail
              have hg7a := World.grownBy_alloc w7 (.cells #[.int .i64 4, .slice none 0 0, .slice as1 yss.length cs1] 91) none
              have hbg := heap_new w7 (.cells #[.int .i64 4, .slice none 0 0, .slice as1 yss.length cs1] 91) _ rfl
              have hb7a := heap_old _ (.cells #[.int .i64 4, .slice none 0 0, .slice as1 yss.length cs1] 91) _ _ hb7
              have hg7b := World.grownBy_alloc (w7.alloc (.cells #[.int .i64 4, .slice none 0 0, .slice as1 yss.length cs1] 91)) (.cells (closeL.map Value.string).toArray 9) none
              have hbs := heap_new (w7.alloc (.cells #[.int .i64 4, .slice none 0 0, .slice as1 yss.length cs1] 91)) (.cells (closeL.map Value.string).toArray 9) (w7.heap.size + 1) (by simp)
              have hb7b := heap_old _ (.cells (closeL.map Value.string).toArray 9) _ _ hb7a
              have hbgb := heap_old _ (.cells (closeL.map Value.string).toArray 9) _ _ hbg
              have hgab := gr_trans hg7a hg7b
              have HM := must_any he (ha7.keep hgab) hq1l (sv := .slice (some ⟨w7.heap.size + 1, 0, none⟩) 1 1) (strs_blk hbs (by show w7.heap.size + 1 ≠ rb; omega) rfl (by unfold maxLen; omega))
              have hg08 := gr_trans hg07 (gr_some hgab (some rb))
              have hrs8 := (repSets_keeps (rb := rb) (t := 116) (by decide) (by decide)).rb hrs (gr_some hgab (some rb))
              have hlt := mustN_lt he closeL q1
              clear hbs hb7a hbg hg7b hg7a hgab hrs hrep ha7 hg7 hb7 hg07 hg06
              change Calls _ _ _ ((w7.alloc (.cells #[.int .i64 4, .slice none 0 0, .slice as1 yss.length cs1] 91)).alloc (.cells (closeL.map Value.string).toArray 9)) _
              generalize ((w7.alloc (.cells #[.int .i64 4, .slice none 0 0, .slice as1 yss.length cs1] 91)).alloc (.cells (closeL.map Value.string).toArray 9)) = w8 at *
              refine HM.mono ?_
              clear HM
              rintro e w9 (⟨q2, hm2, rfl, hg9, ha9⟩ | ⟨hm2, c, a, rfl, hc, hg9⟩)
              · have hb9 := gr_blk hg9 hb7b (by simp; omega)
                have hbg9 := gr_blk hg9 hbgb (by simp; omega)
                have hg := gr_trans hg08 hg9
                have HE3 : Hid (r = some ((4, [], yss), q2)) := by unfold Hid; rw [HE2.out, hm2]
                have hq2 := hlt q2 hq1l hm2
                have hrs9 := (repSets_keeps (rb := rb) (t := 116) (by decide) (by decide)).rb hrs8 hg9
                have hd := elem_done (w := w) (g := (4, [], yss)) hrl hb9 (Nat.le_refl _) hg ha9 (repStrs_nil rb w9) hrs9
                have s0 := blk_cell (l := [_, _, _]) hbg9 0 _ rfl
                have s1 := blk_cell (l := [_, _, _]) hbg9 1 _ rfl
                have s2 := blk_cell (l := [_, _, _]) hbg9 2 _ rfl
                clear HE2 hb7b hg9 hg08 hrs8 hbgb hm hm2
                have hgs9 := blk_lt hbg9
                have p0 := blk_cell (l := [_, _, _]) hb9 0 _ rfl
                have p1 := blk_cell (l := [_, _, _]) hb9 1 _ rfl
                have p2 := blk_cell (l := [_, _, _]) hb9 2 _ rfl
                have pf := blk_free hb9
                go_wp2_with fail
                refine bodyPost_ret (v := .agg #[.int .i64 4, (.slice none 0 0), (.slice as1 yss.length cs1)]) ?_ rfl ?_
                · have hbF := blk_set (blk_set (blk_set hb9 0 (.int .i64 4)) 1 (.slice none 0 0)) 2 (.slice as1 yss.length cs1)
                  generalize (World.setCell _ _ _) = W at *
                  have c0 := blk_cell (l := [_, _, _]) hbF 0 _ rfl
                  have c1 := blk_cell (l := [_, _, _]) hbF 1 _ rfl
                  have c2 := blk_cell (l := [_, _, _]) hbF 2 _ rfl
                  simp [results, Tryz.results117, go_sem, c0, c1, c2]
                · exact .inl ⟨q2, ((4, [], yss) : GroupS), _, HE3.out, by omega, hq2.1, rfl, hd.1, hd.2.1, hd.2.2⟩
              · go_wp2_with fail
                exact ⟨rfl, .inr ⟨by rw [HE2.out, hm2], c, a, rfl, hc, gr_trans hg08 hg9⟩⟩
            · simp only [hm] at HE2
              go_wp2_with fail
              exact ⟨rfl, .inr ⟨HE2.out, c, a, rfl, hc, gr_trans hg06 hg7⟩⟩
          · simp only [hm] at HE2
            go_wp2_with fail
            exact ⟨rfl, .inr ⟨HE2.out, c, a, rfl, hc, gr_trans hg05 hg6⟩⟩
end Go.Proofs.YtoilgmdfbibniaaGreatDoor
