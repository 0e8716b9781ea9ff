/- package parse: the walk of reader.query. -/
import Derived.Test.YtoilgmdfbibniaaGreatDoorQuery
set_option linter.unusedSimpArgs false
set_option linter.unusedVariables false
set_option maxRecDepth 20000
namespace Go.Proofs.YtoilgmdfbibniaaGreatDoor
open Go Go.RowKit

theorem idx_one (x : W3) (s : ByteArray) : idxW x [s] 0 = if isW x s = true then 0 else -1 := rfl
theorem next_one (x : W3) (s : ByteArray) (q : Nat) : nextW x [s] q = if isW x s = true then q + 1 else q := by unfold nextW; rw [idx_one]; split <;> simp

set_option maxHeartbeats 4000000 in
theorem query_any {α : Type} {v : Value} {rb : Nat} {ws : List W3} {rep : World → Value → α → Prop} {orF : Nat → Option (α × Nat)} (hk : Keeps rb 45 rep) (hshape : ∀ w u y, rep w u y → ∃ a, u = .pointer a) (he : EndOk ws)
    (HOr : (∃ (q : Nat) (x : W3), ws[q]? = some x ∧ isW x (⟨#[87, 72, 69, 82, 69]⟩ : ByteArray) = true) → OneOk 115 v rb ws rep orF) {p : Nat} {w : World} (h : AtR v rb ws p w) (hp : p < ws.length) (h9 : 9 ≤ w.heap.size) :
    Calls Tryz.prog 66 #[.pointer (some ⟨rb, 0, none⟩)] w (QPost rb rep w (queryF ws orF p)) := by
  have hrl := h.lt
  have HE0 : Hid (queryF ws orF p = match mustN ws p selectL with
    | none => none
    | some q => match sevF ws (itemF ws) q with
      | none => none
      | some (its, q1) => match mustN ws q1 fromL with
        | none => none
        | some q2 => match nameF ws q2 with
          | none => none
          | some (t, q3) => tailF ws orF q3 its t) := rfl
  generalize queryF ws orF p = r at *
  have hg0 := World.grownBy_alloc w (.cells #[.slice none 0 0, .string ⟨#[]⟩, .pointer none, .bool false, .slice none 0 0] 45) none
  have hb0 := heap_new w (.cells #[.slice none 0 0, .string ⟨#[]⟩, .pointer none, .bool false, .slice none 0 0] 45) _ rfl
  have hsz0 : (w.alloc (.cells #[.slice none 0 0, .string ⟨#[]⟩, .pointer none, .bool false, .slice none 0 0] 45)).heap.size = w.heap.size + 1 := by simp
  have hg1 := World.grownBy_alloc (w.alloc (.cells #[.slice none 0 0, .string ⟨#[]⟩, .pointer none, .bool false, .slice none 0 0] 45)) (.cells (selectL.map Value.string).toArray 9) none
  have hb1 := heap_old _ (.cells (selectL.map Value.string).toArray 9) _ _ hb0
  have hbs := heap_new (w.alloc (.cells #[.slice none 0 0, .string ⟨#[]⟩, .pointer none, .bool false, .slice none 0 0] 45)) (.cells (selectL.map Value.string).toArray 9) (w.heap.size + 1) (by simp)
  have hg01 := gr_trans hg0 hg1
  have HM := must_any he (h.keep hg01) hp (sv := .slice (some ⟨w.heap.size + 1, 0, none⟩) 1 1) (strs_blk hbs (by show w.heap.size + 1 ≠ rb; omega) rfl (by unfold maxLen; omega))
  have hlt := mustN_lt he selectL p
  clear hbs hg0 hg1 hb0 h
  go_enter Tryz.func66, Tryz.ntmps66
  go_wp2_with fail
  refine HM.mono ?_
  clear HM
  rintro e w2 (⟨q, hm, rfl, hg2, ha2⟩ | ⟨hm, c, a, rfl, hc, hg2⟩)
  · have hb2 := gr_blk hg2 hb1 (by simp; omega)
    have hg02 := gr_trans (gr_some hg01 (some rb)) hg2
    have hql := (hlt q hp hm).1
    simp only [hm] at HE0
    have HS := several_Item (m := 112) (fun args w => by kernel_rfl) he (rep := repItem) (fun w w' u y r h _ _ => h) (fun w u y h => ⟨_, _, h, rfl, rfl⟩) (item_one he) ha2 hql (by have := hg02.size; omega)
    clear hlt hm hg2 ha2 hb1 hg01
    go_wp2_with fail
    refine HS.mono ?_
    clear HS
    rintro e w3 (⟨q1, its, u, hm, hqq, hq1l, hne, hil, rfl, hrep, hg3, ha3⟩ | ⟨hm, c, a, rfl, hc, hg3⟩)
    · have hb3 := gr_blk hg3 hb2 (by simp; omega)
      have hg03 := gr_trans hg02 hg3
      simp only [hm] at HE0
      obtain ⟨ai, ci, rfl⟩ := sliceRep_slice hrep
      have hsz3 := hg03.size
      have hb3s := blk_lt hb3
      have hKq := (KeptQ.true rb).and (repItems_keeps (rb := rb) (t := 45) (by decide)) (.slice ai its.length ci) its
      have hga := World.grownBy_alloc w3 (.cells #[.slice ai its.length ci, .string ⟨#[]⟩, .pointer none, .bool false, .slice none 0 0] 45) none
      have hinv : QInv rb v ws w w3.heap.size [.slice ai its.length ci, .string ⟨#[]⟩, .pointer none, .bool false, .slice none 0 0] (fun W => True ∧ repItems rb W (.slice ai its.length ci) its) q1 (w3.alloc (.cells #[.slice ai its.length ci, .string ⟨#[]⟩, .pointer none, .bool false, .slice none 0 0] 45)) :=
        ⟨gr_trans hg03 (gr_some hga _), ha3.keep hga, heap_old _ _ _ _ hb3, hb3s, heap_new _ _ _ rfl, trivial, (repItems_keeps (rb := rb) (t := 116) (by decide)).rb hrep (gr_some hga _)⟩
      have hbs := heap_new (w3.alloc (.cells #[.slice ai its.length ci, .string ⟨#[]⟩, .pointer none, .bool false, .slice none 0 0] 45)) (.cells (fromL.map Value.string).toArray 9) (w3.heap.size + 1) (by simp)
      have hinv := hinv.alloc hKq hrl (.cells (fromL.map Value.string).toArray 9)
      have HM := must_any he hinv.at_ hq1l (sv := .slice (some ⟨w3.heap.size + 1, 0, none⟩) 1 1) (strs_blk hbs (by show w3.heap.size + 1 ≠ rb; omega) rfl (by unfold maxLen; omega))
      have hlt := mustN_lt he fromL q1
      clear hbs hga hg3 ha3 hb3 hb2 hg03 hg02 hrep hm
      go_wp2_with fail
      generalize w3.heap.size = B at *
      refine HM.mono ?_
      clear HM
      rintro e w5 (⟨q2, hm, rfl, hg5, ha5⟩ | ⟨hm, c, a, rfl, hc, hg5⟩)
      · have hinv := hinv.step hKq hrl hg5 ha5
        have hq2l := (hlt q2 hq1l hm).1
        simp only [hm] at HE0
        have hx : ws[q2]? = some ws[q2] := List.getElem?_eq_getElem hq2l
        have hxk := fun hk => he q2 _ hx hk
        have HN := name_any hinv.at_ hx
        have hnm : nameF ws q2 = if ws[q2].1 = 1 then some (ws[q2].2.1, q2 + 1) else none := by unfold nameF; rw [hx]
        have HE1 : Hid (r = if ws[q2].1 = 1 then tailF ws orF (q2 + 1) its ws[q2].2.1 else none) := by
          unfold Hid; rw [HE0.out, hnm]
          by_cases h1 : ws[q2].1 = 1
          · rw [if_pos h1, if_pos h1]
          · rw [if_neg h1, if_neg h1]
        clear hlt hm HE0 hg5 ha5 hnm
        generalize ws[q2] = x at *
        obtain ⟨x1, t, x3⟩ := x
        simp only at HE1 HN hxk
        go_wp2_with fail
        refine HN.mono ?_
        clear HN
        rintro e w6 (⟨h1, rfl, hg6, ha6⟩ | ⟨h1, c, a, rfl, hc, hg6⟩)
        · have hq3 := hxk (by omega)
          have HE2 : Hid (r = tailF ws orF (q2 + 1) its t) := by unfold Hid; rw [HE1.out, if_pos h1]
          have hinv := hinv.step hKq hrl hg6 ha6
          have s1 := blk_cell (l := [_, _, _, _, _]) hinv.b1 1 _ rfl
          have sf := blk_free hinv.b1
          have hinv : QInv rb v ws w B [.slice ai its.length ci, .string t, .pointer none, .bool false, .slice none 0 0] _ (q2 + 1) _ := hinv.put hKq hrl 1 (.string t)
          generalize hq3e : q2 + 1 = q3 at *
          clear hq3e HE1 hxk hx hg6 ha6 hq2l h1
          have hbs := heap_new (w6.setCell ⟨B, 1, none⟩ (.string t)) (.cells (whereL.map Value.string).toArray 9) w6.heap.size (size_set _ _ _).symm
          have hinv := hinv.alloc hKq hrl (.cells (whereL.map Value.string).toArray 9)
          have hx : ws[q3]? = some ws[q3] := List.getElem?_eq_getElem hq3
          have hxk := fun hk => he q3 _ hx (isW_kind (s := (⟨#[87, 72, 69, 82, 69]⟩ : ByteArray)) hk)
          have HE3 : Hid (r = if 0 ≤ idxW ws[q3] whereL 0 then match orF (q3 + 1) with
              | none => none
              | some (c, q1) => groupsF ws q1 its t (some c)
            else groupsF ws q3 its t none) := by unfold Hid; rw [HE2.out, tailF, hx]; rfl
          have HT := take_any hinv.at_ hx (sv := .slice (some ⟨w6.heap.size, 0, none⟩) 1 1) (F := fun _ => True) (strs_blk hbs trivial rfl (by unfold maxLen; omega))
          rw [show whereL = [(⟨#[87, 72, 69, 82, 69]⟩ : ByteArray)] from rfl, idx_one, next_one] at HT
          rw [show whereL = [(⟨#[87, 72, 69, 82, 69]⟩ : ByteArray)] from rfl, idx_one] at HE3
          have HO := fun (hw : isW ws[q3] (⟨#[87, 72, 69, 82, 69]⟩ : ByteArray) = true) => HOr ⟨q3, ws[q3], hx, hw⟩
          clear hbs HOr HE2
          generalize ws[q3] = x at *
          go_wp2_with fail
          refine HT.mono ?_
          clear HT
          rintro e w7 ⟨rfl, hg7, ha7⟩
          have hinv := hinv.step hKq hrl hg7 ha7
          clear hg7 ha7 s1 sf
          cases hw : isW x (⟨#[87, 72, 69, 82, 69]⟩ : ByteArray)
          · have HE : Hid (r = groupsF ws q3 its t none) := by unfold Hid; rw [HE3.out, hw]; rfl
            rw [hw, if_neg (by simp)] at hinv
            clear HE3 hx hxk hw HO x
            have hx : ws[q3]? = some ws[q3] := List.getElem?_eq_getElem hq3
            have hxk := fun hk => he q3 _ hx (isW_kind (s := (⟨#[71, 82, 79, 85, 80]⟩ : ByteArray)) hk)
            have HE8 : Hid (r = if 0 ≤ idxW ws[q3] groupL 0 then match mustN ws (q3 + 1) byL with
                  | none => none
                  | some q1 => match sevF ws (elementF ws) q1 with
                    | none => none
                    | some (gs, q2) => endF ws q2 ⟨its, t, none, true, gs⟩
                else endF ws q3 (⟨its, t, none, false, []⟩ : QueryS α)) := by unfold Hid; rw [HE.out, groupsF, hx]; rfl
            clear HE
            have hbs := heap_new w7 (.cells (groupL.map Value.string).toArray 9) w7.heap.size rfl
            have hinv := hinv.alloc hKq hrl (.cells (groupL.map Value.string).toArray 9)
            have HT := take_any hinv.at_ hx (sv := .slice (some ⟨w7.heap.size, 0, none⟩) 1 1) (F := fun _ => True) (strs_blk hbs trivial rfl (by unfold maxLen; omega))
            rw [show groupL = [(⟨#[71, 82, 79, 85, 80]⟩ : ByteArray)] from rfl, idx_one, next_one] at HT
            rw [show groupL = [(⟨#[71, 82, 79, 85, 80]⟩ : ByteArray)] from rfl, idx_one] at HE8
            clear hbs
            generalize ws[q3] = x at *
            go_wp2_with fail
            refine HT.mono ?_
            clear HT
            rintro e w12 ⟨rfl, hg12, ha12⟩
            have hinv := hinv.step hKq hrl hg12 ha12
            clear hg12 ha12
            cases hw : isW x (⟨#[71, 82, 79, 85, 80]⟩ : ByteArray)
            · have HE : Hid (r = endF ws q3 (⟨its, t, none, false, []⟩ : QueryS α)) := by unfold Hid; rw [HE8.out, hw]; rfl
              rw [hw, if_neg (by simp)] at hinv
              clear HE8 hx hxk hw x
              have hx : ws[q3]? = some ws[q3] := List.getElem?_eq_getElem hq3
              have HO := of_any hinv.at_ hx 6
              have HE9 : Hid (r = if ws[q3].1 = 6 then some (⟨its, t, none, false, []⟩ : QueryS α) else none) := by unfold Hid; rw [HE.out, endF, hx]
              clear HE
              generalize ws[q3] = x at *
              go_wp2_with fail
              refine HO.mono ?_
              clear HO
              rintro e w20 (⟨h6, rfl, hg20, ha20⟩ | ⟨h6, c, a, rfl, hc, hg20⟩)
              · have hinv := hinv.step hKq hrl hg20 ha20
                have HR : Hid (r = some (⟨its, t, none, false, []⟩ : QueryS α)) := by unfold Hid; rw [HE9.out, if_pos h6]
                obtain ⟨W2, hW2, hb2, hrq, hgq⟩ := query_done (y := (⟨its, t, none, false, []⟩ : QueryS α)) hk hrl hinv hinv.good.2 rfl (repGroups_nil rb _)
                have p0 := blk_cell (l := [_, _, _, _, _]) hinv.b0 0 _ rfl
                have p1 := blk_cell (l := [_, _, _, _, _]) hinv.b0 1 _ rfl
                have p2 := blk_cell (l := [_, _, _, _, _]) hinv.b0 2 _ rfl
                have p3 := blk_cell (l := [_, _, _, _, _]) hinv.b0 3 _ rfl
                have p4 := blk_cell (l := [_, _, _, _, _]) hinv.b0 4 _ rfl
                have pf := blk_free hinv.b0
                have s0 := blk_cell (l := [_, _, _, _, _]) hinv.b1 0 _ rfl
                have s1 := blk_cell (l := [_, _, _, _, _]) hinv.b1 1 _ rfl
                have s2 := blk_cell (l := [_, _, _, _, _]) hinv.b1 2 _ rfl
                have s3 := blk_cell (l := [_, _, _, _, _]) hinv.b1 3 _ rfl
                have s4 := blk_cell (l := [_, _, _, _, _]) hinv.b1 4 _ rfl
                have hBs := hinv.size
                clear hinv HE9 hg20 ha20 hx hKq
                replace HW2 := Lib.hid hW2
                clear hW2
                go_wp2_with fail
                rw [← HW2.out]
                have c0 := blk_cell (l := [_, _, _, _, _]) hb2 0 _ rfl
                have c1 := blk_cell (l := [_, _, _, _, _]) hb2 1 _ rfl
                have c2 := blk_cell (l := [_, _, _, _, _]) hb2 2 _ rfl
                have c3 := blk_cell (l := [_, _, _, _, _]) hb2 3 _ rfl
                have c4 := blk_cell (l := [_, _, _, _, _]) hb2 4 _ rfl
                refine bodyPost_ret (v := .agg #[.slice ai its.length ci, .string t, .pointer none, .bool false, .slice none 0 0]) ?_ rfl (Or.inl ⟨_, _, HR.out, rfl, hrq, hgq⟩)
                simp [results, Tryz.results66, go_sem, c0, c1, c2, c3, c4]
              · have HR : Hid (r = none) := by unfold Hid; rw [HE9.out, if_neg h6]
                go_wp2_with fail
                exact ⟨rfl, Or.inr ⟨HR.out, c, a, rfl, hc, gr_trans hinv.gr hg20⟩⟩
            · have hq1 := hxk hw
              have HE7 : Hid (r = match mustN ws (q3 + 1) byL with
                  | none => none
                  | some q1 => match sevF ws (elementF ws) q1 with
                    | none => none
                    | some (gs, q2) => endF ws q2 (⟨its, t, none, true, gs⟩ : QueryS α)) := by unfold Hid; rw [HE8.out, hw]; rfl
              rw [hw, if_pos rfl] at hinv
              clear HE8 hx hxk hw x
              have hbs := heap_new w12 (.cells (byL.map Value.string).toArray 9) _ rfl
              have hlt := mustN_lt he byL (q3 + 1)
              have hsz12 := hinv.size
              have hlt12 := hinv.lt
              have hinv := hinv.alloc hKq hrl (.cells (byL.map Value.string).toArray 9)
              have HM := must_any he hinv.at_ hq1 (sv := .slice (some ⟨w12.heap.size, 0, none⟩) 1 1) (strs_blk hbs (by show w12.heap.size ≠ rb; omega) rfl (by unfold maxLen; omega))
              clear hbs
              go_wp2_with fail
              refine HM.mono ?_
              clear HM
              rintro e w13 (⟨q, hm, rfl, hg13, ha13⟩ | ⟨hm, c, a, rfl, hc, hg13⟩)
              · have hinv := hinv.step hKq hrl hg13 ha13
                have hql := (hlt q hq1 hm).1
                simp only [hm] at HE7
                have HS := several_Group (m := 117) (fun args w => by kernel_rfl) he (rep := repGroup rb) (repGroup_keeps (by decide) (by decide)) (fun w u y h => by obtain ⟨vc, vs, e, h1, h2⟩ := h; obtain ⟨_, _, rfl⟩ := h1.slice; obtain ⟨_, _, rfl⟩ := h2.slice; exact ⟨_, _, _, e, rfl, rfl, rfl⟩) (element_one he) hinv.at_ hql (by have := hinv.gr.size; omega)
                clear hg13 ha13 hlt hm hq1
                go_wp2_with fail
                refine HS.mono ?_
                clear HS
                rintro e w14 (⟨q2, gs, u, hm, hqq, hq2l, hne, hgl, rfl, hrep, hg14, ha14⟩ | ⟨hm, c, a, rfl, hc, hg14⟩)
                · have hinv0 := hinv.step hKq hrl hg14 ha14
                  simp only [hm] at HE7
                  have HE := HE7
                  obtain ⟨ag, cg, rfl⟩ := sliceRep_slice hrep
                  have hKq := hKq.and (repGroups_keeps (rb := rb) (t := 45) (by decide) (by decide) (by decide)) (.slice ag gs.length cg) gs
                  have s3 := blk_cell (l := [_, _, _, _, _]) hinv0.b1 3 _ rfl
                  have s4 := blk_cell (l := [_, _, _, _, _]) hinv0.b1 4 _ rfl
                  have sf := blk_free hinv0.b1
                  have hinv : QInv rb v ws w _ [.slice ai its.length ci, .string t, .pointer none, .bool true, .slice ag gs.length cg] _ q2 _ := ((hinv0.good' ⟨hinv0.good, hrep⟩).put hKq hrl 3 (.bool true)).put hKq hrl 4 (.slice ag gs.length cg)
                  clear hinv0 hg14 ha14 HE7 hm hrep
                  go_wp2_with fail
                  clear s3 s4 sf
                  generalize (World.setCell (World.setCell _ _ _) _ _) = w15 at *
                  have hx : ws[q2]? = some ws[q2] := List.getElem?_eq_getElem hq2l
                  have HO := of_any hinv.at_ hx 6
                  have HE9 : Hid (r = if ws[q2].1 = 6 then some (⟨its, t, none, true, gs⟩ : QueryS α) else none) := by unfold Hid; rw [HE.out, endF, hx]
                  clear HE
                  generalize ws[q2] = x at *
                  go_wp2_with fail
                  refine HO.mono ?_
                  clear HO
                  rintro e w20 (⟨h6, rfl, hg20, ha20⟩ | ⟨h6, c, a, rfl, hc, hg20⟩)
                  · have hinv := hinv.step hKq hrl hg20 ha20
                    have HR : Hid (r = some (⟨its, t, none, true, gs⟩ : QueryS α)) := by unfold Hid; rw [HE9.out, if_pos h6]
                    obtain ⟨W2, hW2, hb2, hrq, hgq⟩ := query_done (y := (⟨its, t, none, true, gs⟩ : QueryS α)) hk hrl hinv hinv.good.1.2 rfl hinv.good.2
                    have p0 := blk_cell (l := [_, _, _, _, _]) hinv.b0 0 _ rfl
                    have p1 := blk_cell (l := [_, _, _, _, _]) hinv.b0 1 _ rfl
                    have p2 := blk_cell (l := [_, _, _, _, _]) hinv.b0 2 _ rfl
                    have p3 := blk_cell (l := [_, _, _, _, _]) hinv.b0 3 _ rfl
                    have p4 := blk_cell (l := [_, _, _, _, _]) hinv.b0 4 _ rfl
                    have pf := blk_free hinv.b0
                    have s0 := blk_cell (l := [_, _, _, _, _]) hinv.b1 0 _ rfl
                    have s1 := blk_cell (l := [_, _, _, _, _]) hinv.b1 1 _ rfl
                    have s2 := blk_cell (l := [_, _, _, _, _]) hinv.b1 2 _ rfl
                    have s3 := blk_cell (l := [_, _, _, _, _]) hinv.b1 3 _ rfl
                    have s4 := blk_cell (l := [_, _, _, _, _]) hinv.b1 4 _ rfl
                    have hBs := hinv.size
                    clear hinv HE9 hg20 ha20 hx hKq
                    replace HW2 := Lib.hid hW2
                    clear hW2
                    go_wp2_with fail
                    rw [← HW2.out]
                    have c0 := blk_cell (l := [_, _, _, _, _]) hb2 0 _ rfl
                    have c1 := blk_cell (l := [_, _, _, _, _]) hb2 1 _ rfl
                    have c2 := blk_cell (l := [_, _, _, _, _]) hb2 2 _ rfl
                    have c3 := blk_cell (l := [_, _, _, _, _]) hb2 3 _ rfl
                    have c4 := blk_cell (l := [_, _, _, _, _]) hb2 4 _ rfl
                    refine bodyPost_ret (v := .agg #[.slice ai its.length ci, .string t, .pointer none, .bool true, .slice ag gs.length cg]) ?_ rfl (Or.inl ⟨_, _, HR.out, rfl, hrq, hgq⟩)
                    simp [results, Tryz.results66, go_sem, c0, c1, c2, c3, c4]
                  · have HR : Hid (r = none) := by unfold Hid; rw [HE9.out, if_neg h6]
                    go_wp2_with fail
                    exact ⟨rfl, Or.inr ⟨HR.out, c, a, rfl, hc, gr_trans hinv.gr hg20⟩⟩
                · simp only [hm] at HE7
                  go_wp2_with fail
                  exact ⟨rfl, Or.inr ⟨HE7.out, c, a, rfl, hc, gr_trans hinv.gr hg14⟩⟩
              · simp only [hm] at HE7
                go_wp2_with fail
                exact ⟨rfl, Or.inr ⟨HE7.out, c, a, rfl, hc, gr_trans hinv.gr hg13⟩⟩
          · have hq4 := hxk hw
            have HE4 : Hid (r = match orF (q3 + 1) with
              | none => none
              | some (c, q1) => groupsF ws q1 its t (some c)) := by unfold Hid; rw [HE3.out, hw]; rfl
            rw [hw, if_pos rfl] at hinv
            have HC := HO hw (q3 + 1) w7 hinv.at_ hq4 (by have := hinv.gr.size; omega)
            clear HE3 hx hxk hw HO x
            go_wp2_with fail
            refine HC.mono ?_
            clear HC
            rintro e w8 (⟨q5, cc, u, hm, hqq, hq5l, rfl, hrep, hg8, ha8⟩ | ⟨hm, c, a, rfl, hc, hg8⟩)
            · have hinv0 := hinv.step hKq hrl hg8 ha8
              obtain ⟨pw, rfl⟩ := hshape _ _ _ hrep
              have HE : Hid (r = groupsF ws q5 its t (some cc)) := by unfold Hid; rw [HE4.out, hm]
              have hKq := hKq.and hk (.pointer pw) cc
              have s2 := blk_cell (l := [_, _, _, _, _]) hinv0.b1 2 _ rfl
              have sf := blk_free hinv0.b1
              have hinv : QInv rb v ws w B [.slice ai its.length ci, .string t, .pointer pw, .bool false, .slice none 0 0] _ q5 _ := (hinv0.good' ⟨hinv0.good, hrep⟩).put hKq hrl 2 (.pointer pw)
              clear hinv0 hg8 ha8 HE4 hm hrep
              have hx : ws[q5]? = some ws[q5] := List.getElem?_eq_getElem hq5l
              have hxk := fun hk => he q5 _ hx (isW_kind (s := (⟨#[71, 82, 79, 85, 80]⟩ : ByteArray)) hk)
              have HE8 : Hid (r = if 0 ≤ idxW ws[q5] groupL 0 then match mustN ws (q5 + 1) byL with
                    | none => none
                    | some q1 => match sevF ws (elementF ws) q1 with
                      | none => none
                      | some (gs, q2) => endF ws q2 ⟨its, t, (some cc), true, gs⟩
                  else endF ws q5 (⟨its, t, (some cc), false, []⟩ : QueryS α)) := by unfold Hid; rw [HE.out, groupsF, hx]; rfl
              clear HE
              have hbs := heap_new (w8.setCell ⟨B, 2, none⟩ (.pointer pw)) (.cells (groupL.map Value.string).toArray 9) w8.heap.size (size_set _ _ _).symm
              have hinv := hinv.alloc hKq hrl (.cells (groupL.map Value.string).toArray 9)
              have HT := take_any hinv.at_ hx (sv := .slice (some ⟨w8.heap.size, 0, none⟩) 1 1) (F := fun _ => True) (strs_blk hbs trivial rfl (by unfold maxLen; omega))
              rw [show groupL = [(⟨#[71, 82, 79, 85, 80]⟩ : ByteArray)] from rfl, idx_one, next_one] at HT
              rw [show groupL = [(⟨#[71, 82, 79, 85, 80]⟩ : ByteArray)] from rfl, idx_one] at HE8
              clear hbs
              generalize ws[q5] = x at *
              go_wp2_with fail
              refine HT.mono ?_
              clear HT
              rintro e w12 ⟨rfl, hg12, ha12⟩
              have hinv := hinv.step hKq hrl hg12 ha12
              clear hg12 ha12
              cases hw : isW x (⟨#[71, 82, 79, 85, 80]⟩ : ByteArray)
              · have HE : Hid (r = endF ws q5 (⟨its, t, (some cc), false, []⟩ : QueryS α)) := by unfold Hid; rw [HE8.out, hw]; rfl
                rw [hw, if_neg (by simp)] at hinv
                clear HE8 hx hxk hw x
                have hx : ws[q5]? = some ws[q5] := List.getElem?_eq_getElem hq5l
                have HO := of_any hinv.at_ hx 6
                have HE9 : Hid (r = if ws[q5].1 = 6 then some (⟨its, t, (some cc), false, []⟩ : QueryS α) else none) := by unfold Hid; rw [HE.out, endF, hx]
                clear HE
                generalize ws[q5] = x at *
                go_wp2_with fail
                refine HO.mono ?_
                clear HO
                rintro e w20 (⟨h6, rfl, hg20, ha20⟩ | ⟨h6, c, a, rfl, hc, hg20⟩)
                · have hinv := hinv.step hKq hrl hg20 ha20
                  have HR : Hid (r = some (⟨its, t, (some cc), false, []⟩ : QueryS α)) := by unfold Hid; rw [HE9.out, if_pos h6]
                  obtain ⟨W2, hW2, hb2, hrq, hgq⟩ := query_done (y := (⟨its, t, (some cc), false, []⟩ : QueryS α)) hk hrl hinv hinv.good.1.2 hinv.good.2 (repGroups_nil rb _)
                  have p0 := blk_cell (l := [_, _, _, _, _]) hinv.b0 0 _ rfl
                  have p1 := blk_cell (l := [_, _, _, _, _]) hinv.b0 1 _ rfl
                  have p2 := blk_cell (l := [_, _, _, _, _]) hinv.b0 2 _ rfl
                  have p3 := blk_cell (l := [_, _, _, _, _]) hinv.b0 3 _ rfl
                  have p4 := blk_cell (l := [_, _, _, _, _]) hinv.b0 4 _ rfl
                  have pf := blk_free hinv.b0
                  have s0 := blk_cell (l := [_, _, _, _, _]) hinv.b1 0 _ rfl
                  have s1 := blk_cell (l := [_, _, _, _, _]) hinv.b1 1 _ rfl
                  have s2 := blk_cell (l := [_, _, _, _, _]) hinv.b1 2 _ rfl
                  have s3 := blk_cell (l := [_, _, _, _, _]) hinv.b1 3 _ rfl
                  have s4 := blk_cell (l := [_, _, _, _, _]) hinv.b1 4 _ rfl
                  have hBs := hinv.size
                  clear hinv HE9 hg20 ha20 hx hKq
                  replace HW2 := Lib.hid hW2
                  clear hW2
                  go_wp2_with fail
                  rw [← HW2.out]
                  have c0 := blk_cell (l := [_, _, _, _, _]) hb2 0 _ rfl
                  have c1 := blk_cell (l := [_, _, _, _, _]) hb2 1 _ rfl
                  have c2 := blk_cell (l := [_, _, _, _, _]) hb2 2 _ rfl
                  have c3 := blk_cell (l := [_, _, _, _, _]) hb2 3 _ rfl
                  have c4 := blk_cell (l := [_, _, _, _, _]) hb2 4 _ rfl
                  refine bodyPost_ret (v := .agg #[.slice ai its.length ci, .string t, .pointer pw, .bool false, .slice none 0 0]) ?_ rfl (Or.inl ⟨_, _, HR.out, rfl, hrq, hgq⟩)
                  simp [results, Tryz.results66, go_sem, c0, c1, c2, c3, c4]
                · have HR : Hid (r = none) := by unfold Hid; rw [HE9.out, if_neg h6]
                  go_wp2_with fail
                  exact ⟨rfl, Or.inr ⟨HR.out, c, a, rfl, hc, gr_trans hinv.gr hg20⟩⟩
              · have hq1 := hxk hw
                have HE7 : Hid (r = match mustN ws (q5 + 1) byL with
                    | none => none
                    | some q1 => match sevF ws (elementF ws) q1 with
                      | none => none
                      | some (gs, q2) => endF ws q2 (⟨its, t, (some cc), true, gs⟩ : QueryS α)) := by unfold Hid; rw [HE8.out, hw]; rfl
                rw [hw, if_pos rfl] at hinv
                clear HE8 hx hxk hw x
                have hbs := heap_new w12 (.cells (byL.map Value.string).toArray 9) _ rfl
                have hlt := mustN_lt he byL (q5 + 1)
                have hsz12 := hinv.size
                have hlt12 := hinv.lt
                have hinv := hinv.alloc hKq hrl (.cells (byL.map Value.string).toArray 9)
                have HM := must_any he hinv.at_ hq1 (sv := .slice (some ⟨w12.heap.size, 0, none⟩) 1 1) (strs_blk hbs (by show w12.heap.size ≠ rb; omega) rfl (by unfold maxLen; omega))
                clear hbs
                go_wp2_with fail
                refine HM.mono ?_
                clear HM
                rintro e w13 (⟨q, hm, rfl, hg13, ha13⟩ | ⟨hm, c, a, rfl, hc, hg13⟩)
                · have hinv := hinv.step hKq hrl hg13 ha13
                  have hql := (hlt q hq1 hm).1
                  simp only [hm] at HE7
                  have HS := several_Group (m := 117) (fun args w => by kernel_rfl) he (rep := repGroup rb) (repGroup_keeps (by decide) (by decide)) (fun w u y h => by obtain ⟨vc, vs, e, h1, h2⟩ := h; obtain ⟨_, _, rfl⟩ := h1.slice; obtain ⟨_, _, rfl⟩ := h2.slice; exact ⟨_, _, _, e, rfl, rfl, rfl⟩) (element_one he) hinv.at_ hql (by have := hinv.gr.size; omega)
                  clear hg13 ha13 hlt hm hq1
                  go_wp2_with fail
                  refine HS.mono ?_
                  clear HS
                  rintro e w14 (⟨q2, gs, u, hm, hqq, hq2l, hne, hgl, rfl, hrep, hg14, ha14⟩ | ⟨hm, c, a, rfl, hc, hg14⟩)
                  · have hinv0 := hinv.step hKq hrl hg14 ha14
                    simp only [hm] at HE7
                    have HE := HE7
                    obtain ⟨ag, cg, rfl⟩ := sliceRep_slice hrep
                    have hKq := hKq.and (repGroups_keeps (rb := rb) (t := 45) (by decide) (by decide) (by decide)) (.slice ag gs.length cg) gs
                    have s3 := blk_cell (l := [_, _, _, _, _]) hinv0.b1 3 _ rfl
                    have s4 := blk_cell (l := [_, _, _, _, _]) hinv0.b1 4 _ rfl
                    have sf := blk_free hinv0.b1
                    have hinv : QInv rb v ws w _ [.slice ai its.length ci, .string t, .pointer pw, .bool true, .slice ag gs.length cg] _ q2 _ := ((hinv0.good' ⟨hinv0.good, hrep⟩).put hKq hrl 3 (.bool true)).put hKq hrl 4 (.slice ag gs.length cg)
                    clear hinv0 hg14 ha14 HE7 hm hrep
                    go_wp2_with fail
                    clear s3 s4 sf
                    generalize (World.setCell (World.setCell _ _ _) _ _) = w15 at *
                    have hx : ws[q2]? = some ws[q2] := List.getElem?_eq_getElem hq2l
                    have HO := of_any hinv.at_ hx 6
                    have HE9 : Hid (r = if ws[q2].1 = 6 then some (⟨its, t, (some cc), true, gs⟩ : QueryS α) else none) := by unfold Hid; rw [HE.out, endF, hx]
                    clear HE
                    generalize ws[q2] = x at *
                    go_wp2_with fail
                    refine HO.mono ?_
                    clear HO
                    rintro e w20 (⟨h6, rfl, hg20, ha20⟩ | ⟨h6, c, a, rfl, hc, hg20⟩)
                    · have hinv := hinv.step hKq hrl hg20 ha20
                      have HR : Hid (r = some (⟨its, t, (some cc), true, gs⟩ : QueryS α)) := by unfold Hid; rw [HE9.out, if_pos h6]
                      obtain ⟨W2, hW2, hb2, hrq, hgq⟩ := query_done (y := (⟨its, t, (some cc), true, gs⟩ : QueryS α)) hk hrl hinv hinv.good.1.1.2 hinv.good.1.2 hinv.good.2
                      have p0 := blk_cell (l := [_, _, _, _, _]) hinv.b0 0 _ rfl
                      have p1 := blk_cell (l := [_, _, _, _, _]) hinv.b0 1 _ rfl
                      have p2 := blk_cell (l := [_, _, _, _, _]) hinv.b0 2 _ rfl
                      have p3 := blk_cell (l := [_, _, _, _, _]) hinv.b0 3 _ rfl
                      have p4 := blk_cell (l := [_, _, _, _, _]) hinv.b0 4 _ rfl
                      have pf := blk_free hinv.b0
                      have s0 := blk_cell (l := [_, _, _, _, _]) hinv.b1 0 _ rfl
                      have s1 := blk_cell (l := [_, _, _, _, _]) hinv.b1 1 _ rfl
                      have s2 := blk_cell (l := [_, _, _, _, _]) hinv.b1 2 _ rfl
                      have s3 := blk_cell (l := [_, _, _, _, _]) hinv.b1 3 _ rfl
                      have s4 := blk_cell (l := [_, _, _, _, _]) hinv.b1 4 _ rfl
                      have hBs := hinv.size
                      clear hinv HE9 hg20 ha20 hx hKq
                      replace HW2 := Lib.hid hW2
                      clear hW2
                      go_wp2_with fail
                      rw [← HW2.out]
                      have c0 := blk_cell (l := [_, _, _, _, _]) hb2 0 _ rfl
                      have c1 := blk_cell (l := [_, _, _, _, _]) hb2 1 _ rfl
                      have c2 := blk_cell (l := [_, _, _, _, _]) hb2 2 _ rfl
                      have c3 := blk_cell (l := [_, _, _, _, _]) hb2 3 _ rfl
                      have c4 := blk_cell (l := [_, _, _, _, _]) hb2 4 _ rfl
                      refine bodyPost_ret (v := .agg #[.slice ai its.length ci, .string t, .pointer pw, .bool true, .slice ag gs.length cg]) ?_ rfl (Or.inl ⟨_, _, HR.out, rfl, hrq, hgq⟩)
                      simp [results, Tryz.results66, go_sem, c0, c1, c2, c3, c4]
                    · have HR : Hid (r = none) := by unfold Hid; rw [HE9.out, if_neg h6]
                      go_wp2_with fail
                      exact ⟨rfl, Or.inr ⟨HR.out, c, a, rfl, hc, gr_trans hinv.gr hg20⟩⟩
                  · simp only [hm] at HE7
                    go_wp2_with fail
                    exact ⟨rfl, Or.inr ⟨HE7.out, c, a, rfl, hc, gr_trans hinv.gr hg14⟩⟩
                · simp only [hm] at HE7
                  go_wp2_with fail
                  exact ⟨rfl, Or.inr ⟨HE7.out, c, a, rfl, hc, gr_trans hinv.gr hg13⟩⟩
            · simp only [hm] at HE4
              go_wp2_with fail
              exact ⟨rfl, Or.inr ⟨HE4.out, c, a, rfl, hc, gr_trans hinv.gr hg8⟩⟩
        · have HE2 : Hid (r = none) := by unfold Hid; rw [HE1.out, if_neg h1]
          go_wp2_with fail
          exact ⟨rfl, Or.inr ⟨HE2.out, c, a, rfl, hc, gr_trans hinv.gr hg6⟩⟩
      · simp only [hm] at HE0
        go_wp2_with fail
        exact ⟨rfl, Or.inr ⟨HE0.out, c, a, rfl, hc, gr_trans hinv.gr hg5⟩⟩
    · simp only [hm] at HE0
      go_wp2_with fail
      exact ⟨rfl, Or.inr ⟨HE0.out, c, a, rfl, hc, gr_trans hg02 hg3⟩⟩
  · simp only [hm] at HE0
    go_wp2_with fail
    exact ⟨rfl, Or.inr ⟨HE0.out, c, a, rfl, hc, gr_trans (gr_some hg01 _) hg2⟩⟩
end Go.Proofs.YtoilgmdfbibniaaGreatDoor
