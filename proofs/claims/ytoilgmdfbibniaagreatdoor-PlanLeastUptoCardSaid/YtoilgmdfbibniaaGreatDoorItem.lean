/- package parse: items, names, sets, elements. -/
import Derived.Test.YtoilgmdfbibniaaGreatDoorSev
set_option linter.unusedSimpArgs false
set_option linter.unusedVariables false
set_option maxRecDepth 20000
namespace Go.Proofs.YtoilgmdfbibniaaGreatDoor
open Go Go.RowKit

def nameF (ws : List W3) (p : Nat) : Option (ByteArray × Nat) := match ws[p]? with
  | some x => if x.1 = 1 then some (x.2.1, p + 1) else none
  | none => none
def repStr (_ : World) (u : Value) (s : ByteArray) : Prop := u = .string s

theorem name_one {v : Value} {rb : Nat} {ws : List W3} (he : EndOk ws) : OneOk 113 v rb ws repStr (nameF ws) := by
  intro p w h hp h9
  have hx : ws[p]? = some ws[p] := List.getElem?_eq_getElem hp
  refine (name_any h hx).mono ?_
  rintro e w' (⟨h1, rfl, hg, ha⟩ | ⟨h1, hb⟩)
  · exact .inl ⟨p + 1, ws[p].2.1, _, by simp [nameF, hx, h1], by omega, he p _ hx (by omega), rfl, rfl, hg, ha⟩
  · exact .inr ⟨by simp [nameF, hx, h1], hb⟩

def itemsL : List ByteArray := [(⟨#[67, 79, 85, 78, 84]⟩ : ByteArray), (⟨#[83, 85, 77]⟩ : ByteArray), (⟨#[77, 73, 78]⟩ : ByteArray), (⟨#[77, 65, 88]⟩ : ByteArray), (⟨#[71, 82, 79, 85, 80, 73, 78, 71]⟩ : ByteArray)]
def openL : List ByteArray := [(⟨#[40]⟩ : ByteArray)]
def closeL : List ByteArray := [(⟨#[41]⟩ : ByteArray)]
def starL : List ByteArray := [(⟨#[40]⟩ : ByteArray), (⟨#[42]⟩ : ByteArray), (⟨#[41]⟩ : ByteArray)]
abbrev ItemS := Nat × ByteArray
def itemF (ws : List W3) (p : Nat) : Option (ItemS × Nat) := match ws[p]? with
  | none => none
  | some x => if x.1 = 1 then some ((1, x.2.1), p + 1)
    else if idxW x itemsL 0 = -1 then none
    else if idxW x itemsL 0 = 0 then match mustN ws (p + 1) starL with
      | some q => some ((2, ⟨#[]⟩), q)
      | none => none
    else match mustN ws (p + 1) openL with
      | none => none
      | some q => match nameF ws q with
        | none => none
        | some (s, q1) => match mustN ws q1 closeL with
          | none => none
          | some q2 => some ((2 + (idxW x itemsL 0).toNat, s), q2)
def repItem (_ : World) (u : Value) (y : ItemS) : Prop := u = .agg #[.int .i64 (y.1 : Int), .string y.2]

theorem idxW_range (x : W3) : ∀ (l : List ByteArray) (k : Nat), idxW x l k = -1 ∨ ((k : Int) ≤ idxW x l k ∧ idxW x l k < k + l.length) := by
  intro l
  induction l with
  | nil => intro k; exact .inl rfl
  | cons s l ih =>
    intro k
    rw [idxW]
    split
    · right; simp; omega
    · rcases ih (k + 1) with h | h
      · exact .inl h
      · right; simp at h ⊢; omega

theorem AtR.put2 {v : Value} {rb : Nat} {ws : List W3} {p : Nat} {w : World} (h : AtR v rb ws p w) {b : Nat} (hb : rb < b) (o : Nat) (u : Value) : AtR v rb ws p (w.setCell ⟨b, o, none⟩ u) :=
  ⟨blk_set_ne h.1 (by omega) _ _, h.2.1.keep (r := some b) (gr_setR (p := ⟨b, o, none⟩) (gr_refl _ _) rfl _) (fun k hk => by simp; omega), h.2.2⟩

set_option maxHeartbeats 2000000 in
theorem item_one {v : Value} {rb : Nat} {ws : List W3} (he : EndOk ws) : OneOk 112 v rb ws repItem (itemF ws) := by
  intro p w h hp h9
  have hx : ws[p]? = some ws[p] := List.getElem?_eq_getElem hp
  have hrl := h.lt
  have hga := World.grownBy_alloc w (.cells #[.int .i64 0, .string ⟨#[]⟩] 81) none
  have hb := heap_new w (.cells #[.int .i64 0, .string ⟨#[]⟩] 81) _ rfl
  have hsz : (w.alloc (.cells #[.int .i64 0, .string ⟨#[]⟩] 81)).heap.size = w.heap.size + 1 := by simp
  have ha := h.keep hga
  clear h
  by_cases h1 : ws[p].1 = 1
  · have HE : Hid (itemF ws p = some ((1, ws[p].2.1), p + 1)) := by unfold Hid; simp [itemF, hx, h1]
    have hq := he p _ hx (by omega)
    generalize ws[p] = x at *
    obtain ⟨x1, x2, x3⟩ := x
    simp only at h1 HE
    subst h1
    go_enter Tryz.func112, Tryz.ntmps112
    go_wp2_with fail
    generalize (w.alloc _) = w1 at *
    refine (word_any ha hx).mono ?_
    rintro e w2 ⟨rfl, hg2⟩
    have ha2 := ha.keep hg2
    have hb2 := gr_blk hg2 hb (by simp)
    go_wp2_with fail
    rw [field_kind]
    go_wp2_with fail
    refine (name_any ha2 hx).mono ?_
    rintro e w3 (⟨_, rfl, hg3, ha3⟩ | ⟨h, _⟩)
    · have hb3 := gr_blk hg3 hb2 (by simp; omega)
      have hg := gr_trans (gr_trans (gr_some (gr_trans hga hg2) (some rb)) hg3) (gr_refl _ _)
      have p0 := blk_cell (l := [_, _]) hb3 0 _ rfl
      have p1 := blk_cell (l := [_, _]) hb3 1 _ rfl
      have pf := blk_free hb3
      go_wp2_with fail
      refine bodyPost_ret (v := .agg #[.int .i64 1, .string x2]) ?_ rfl ?_
      · have hbF := blk_set (blk_set hb3 0 (.int .i64 1)) 1 (.string x2)
        generalize (World.setCell _ _ _) = W at *
        have c0 := blk_cell (l := [_, _]) hbF 0 _ rfl
        have c1 := blk_cell (l := [_, _]) hbF 1 _ rfl
        simp [results, Tryz.results112, go_sem, c0, c1]
      · exact .inl ⟨p + 1, ((1, x2) : ItemS), .agg #[.int .i64 1, .string x2], HE.out, by omega, hq, rfl, rfl, gr_set (p := ⟨w.heap.size, 1, none⟩) (gr_set (p := ⟨w.heap.size, 0, none⟩) hg (Nat.le_refl _) _) (Nat.le_refl _) _, (ha3.put2 hrl 0 _).put2 hrl 1 _⟩
    · exact absurd rfl h
  · have HE : Hid (itemF ws p = (if idxW ws[p] itemsL 0 = -1 then none
        else if idxW ws[p] itemsL 0 = 0 then match mustN ws (p + 1) starL with
          | some q => some ((2, ⟨#[]⟩), q)
          | none => none
        else match mustN ws (p + 1) openL with
          | none => none
          | some q => match nameF ws q with
            | none => none
            | some (s, q1) => match mustN ws q1 closeL with
              | none => none
              | some q2 => some ((2 + (idxW ws[p] itemsL 0).toNat, s), q2))) := by unfold Hid; rw [itemF, hx]; simp only [if_neg h1]
    have hi := idxW_range ws[p] itemsL 0
    have hnw : nextW ws[p] itemsL p = if 0 ≤ idxW ws[p] itemsL 0 then p + 1 else p := rfl
    have hqk : 0 ≤ idxW ws[p] itemsL 0 → p + 1 < ws.length := fun h => he p _ hx (idxW_kind h)
    generalize itemF ws p = r at *
    have hTk := fun (W : World) (hg : (w.alloc (.cells #[.int .i64 0, .string ⟨#[]⟩] 81)).grownBy W none) (sv : Value) (hs : StrsR (fun _ => True) W sv itemsL) => take_any (ha.keep hg) hx hs
    rw [hnw] at hTk
    generalize idxW ws[p] itemsL 0 = i at *
    have hfr := fun (W : World) (hg : (w.alloc (.cells #[.int .i64 0, .string ⟨#[]⟩] 81)).grownBy W none) => word_any (ha.keep hg) hx
    generalize ws[p] = x at *
    obtain ⟨x1, x2, x3⟩ := x
    simp only at h1
    have h1' : ((x1 : Int) == 1) = false := by simp; omega
    go_enter Tryz.func112, Tryz.ntmps112
    go_wp2_with fail
    generalize (w.alloc _) = w1 at *
    refine (hfr w1 (gr_refl _ _)).mono ?_
    rintro e w2 ⟨rfl, hg2⟩
    clear hfr
    have hb2 := gr_blk hg2 hb (by simp)
    have hga2 := gr_trans hga hg2
    go_wp2_with fail
    rw [field_kind]
    have hg3 := gr_alloc hg2 (.cells (itemsL.map Value.string).toArray 9)
    have hbs := heap_new w2 (.cells (itemsL.map Value.string).toArray 9) _ rfl
    have HT := hTk _ hg3 (.slice (some ⟨w2.heap.size, 0, none⟩) 5 5) (strs_blk hbs trivial rfl (by unfold maxLen; omega))
    have hb3 := heap_old _ (.cells (itemsL.map Value.string).toArray 9) _ _ hb2
    have hga3 := gr_alloc hga2 (.cells (itemsL.map Value.string).toArray 9)
    clear hTk hbs hb2 hga2 hb hga hnw
    go_wp2_with fail
    refine HT.mono ?_
    rintro e w4 ⟨rfl, hg4, ha4⟩
    clear HT
    have hb4 := gr_blk hg4 hb3 (by simp; omega)
    have hg04 := gr_trans (gr_some hga3 (some rb)) hg4
    have hsz4 := hg04.size
    clear hb3 hg4 hga3 hg3 hg2
    by_cases him : i = -1
    · subst him
      rw [if_neg (by decide)] at ha4
      have HF := fail_reader ha4 hx 41
      have HE2 : Hid (r = none) := by unfold Hid; rw [HE.out]; rfl
      clear HE
      go_wp2_with fail
      refine HF.mono ?_
      rintro e w5 ⟨rfl, hg5⟩
      go_wp2_with fail
      exact ⟨rfl, .inr ⟨HE2.out, 41, _, rfl, by decide, gr_trans hg04 (gr_some hg5 _)⟩⟩
    · have hi0 : 0 ≤ i := by omega
      have hq1 := hqk hi0
      rw [if_pos hi0] at ha4
      by_cases hi1 : i = 0
      · subst hi1
        have HE2 : Hid (r = match mustN ws (p + 1) starL with
          | some q => some ((2, ⟨#[]⟩), q)
          | none => none) := by unfold Hid; rw [HE.out]; rfl
        clear HE
        have hg5 := World.grownBy_alloc w4 (.cells (starL.map Value.string).toArray 9) none
        have hbs := heap_new w4 (.cells (starL.map Value.string).toArray 9) _ rfl
        have HM := must_any he (ha4.keep hg5) hq1 (sv := .slice (some ⟨w4.heap.size, 0, none⟩) 3 3) (strs_blk hbs (by show w4.heap.size ≠ rb; omega) rfl (by unfold maxLen; omega))
        have hb5 := heap_old _ (.cells (starL.map Value.string).toArray 9) _ _ hb4
        have hg05 := gr_trans hg04 (gr_some hg5 (some rb))
        have hlt := mustN_lt he starL (p + 1)
        clear hbs hb4 hg5
        go_wp2_with fail
        refine HM.mono ?_
        clear HM
        rintro e w6 (⟨q, hm, rfl, hg6, ha6⟩ | ⟨hm, c, a, rfl, hc, hg6⟩)
        · have hb6 := gr_blk hg6 hb5 (by simp; omega)
          have hg := gr_trans hg05 hg6
          have HE3 : Hid (r = some ((2, ⟨#[]⟩), q)) := by unfold Hid; rw [HE2.out, hm]
          have hql := hlt q hq1 hm
          clear HE2 hb5 hg6 hg05
          have p0 := blk_cell (l := [_, _]) hb6 0 _ rfl
          have p1 := blk_cell (l := [_, _]) hb6 1 _ rfl
          have pf := blk_free hb6
          go_wp2_with fail
          refine bodyPost_ret (v := .agg #[.int .i64 2, .string ⟨#[]⟩]) ?_ rfl ?_
          · have hbF := blk_set (blk_set hb6 0 (.int .i64 2)) 1 (.string ⟨#[]⟩)
            generalize (World.setCell _ _ _) = W at *
            have c0 := blk_cell (l := [_, _]) hbF 0 _ rfl
            have c1 := blk_cell (l := [_, _]) hbF 1 _ rfl
            simp [results, Tryz.results112, go_sem, c0, c1]
          · exact .inl ⟨q, ((2, ⟨#[]⟩) : ItemS), .agg #[.int .i64 2, .string ⟨#[]⟩], HE3.out, by omega, hql.1, rfl, rfl, gr_set (p := ⟨w.heap.size, 1, none⟩) (gr_set (p := ⟨w.heap.size, 0, none⟩) hg (Nat.le_refl _) _) (Nat.le_refl _) _, (ha6.put2 hrl 0 _).put2 hrl 1 _⟩
        · go_wp2_with fail
          exact ⟨rfl, .inr ⟨by rw [HE2.out, hm], c, a, rfl, hc, gr_trans hg05 hg6⟩⟩
      · have HE2 : Hid (r = match mustN ws (p + 1) openL with
          | none => none
          | some q => match nameF ws q with
            | none => none
            | some (s, q1) => match mustN ws q1 closeL with
              | none => none
              | some q2 => some ((2 + i.toNat, s), q2)) := by unfold Hid; rw [HE.out, if_neg him, if_neg hi1]
        clear HE
        have hi5 : i < 5 := by have : itemsL.length = 5 := rfl; omega
        have hg5 := World.grownBy_alloc w4 (.cells (openL.map Value.string).toArray 9) none
        have hbs := heap_new w4 (.cells (openL.map Value.string).toArray 9) _ rfl
        have HM := must_any he (ha4.keep hg5) hq1 (sv := .slice (some ⟨w4.heap.size, 0, none⟩) 1 1) (strs_blk hbs (by show w4.heap.size ≠ rb; omega) rfl (by unfold maxLen; omega))
        have hb5 := heap_old _ (.cells (openL.map Value.string).toArray 9) _ _ hb4
        have hg05 := gr_trans hg04 (gr_some hg5 (some rb))
        have hlt := mustN_lt he openL (p + 1)
        have hin : ((i == 0) = false) := by simpa using hi1
        clear hbs hb4 hg5 hg04 hi
        go_wp2_with fail
        refine HM.mono ?_
        clear HM
        rintro e w6 (⟨q, hm, rfl, hg6, ha6⟩ | ⟨hm, c, a, rfl, hc, hg6⟩)
        · have hb6 := gr_blk hg6 hb5 (by simp; omega)
          have hg06 := gr_trans hg05 hg6
          have hql := hlt q hq1 hm
          simp only [hm] at HE2
          have hxq : ws[q]? = some ws[q] := List.getElem?_eq_getElem hql.1
          have HN := name_one (v := v) (rb := rb) he q w6 ha6 hql.1 (by have := hg06.size; omega)
          clear hb5 hg6 hg05 hlt hm hxq
          go_wp2_with fail
          refine HN.mono ?_
          clear HN
          rintro e w7 (⟨q1, s, _, hm, hqq, hq1l, rfl, rfl, hg7, ha7⟩ | ⟨hm, c, a, rfl, hc, hg7⟩)
          · have hb7 := gr_blk hg7 hb6 (by simp; omega)
            have hg07 := gr_trans hg06 hg7
            simp only [hm] at HE2
            have hsz7 := hg07.size
            have hg8 := World.grownBy_alloc w7 (.cells (closeL.map Value.string).toArray 9) none
            have hbs := heap_new w7 (.cells (closeL.map Value.string).toArray 9) _ rfl
            have HM := must_any he (ha7.keep hg8) hq1l (sv := .slice (some ⟨w7.heap.size, 0, none⟩) 1 1) (strs_blk hbs (by show w7.heap.size ≠ rb; omega) rfl (by unfold maxLen; omega))
            have hb8 := heap_old _ (.cells (closeL.map Value.string).toArray 9) _ _ hb7
            have hg08 := gr_trans hg07 (gr_some hg8 (some rb))
            have hlt := mustN_lt he closeL q1
            clear hbs hb7 hg8 hg07 hb6 hg06 hg7
            go_wp2_with fail
            refine HM.mono ?_
            clear HM
            rintro e w9 (⟨q2, hm2, rfl, hg9, ha9⟩ | ⟨hm2, c, a, rfl, hc, hg9⟩)
            · have hb9 := gr_blk hg9 hb8 (by simp; omega)
              have hg := gr_trans hg08 hg9
              have HE3 : Hid (r = some ((2 + i.toNat, s), q2)) := by unfold Hid; rw [HE2.out, hm2]
              have hq2 := hlt q2 hq1l hm2
              have hiN : (((2 + i.toNat : Nat)) : Int) = 2 + i := by omega
              clear HE2 hb8 hg9 hg08
              have p0 := blk_cell (l := [_, _]) hb9 0 _ rfl
              have p1 := blk_cell (l := [_, _]) hb9 1 _ rfl
              have pf := blk_free hb9
              go_wp2_with fail
              refine bodyPost_ret (v := .agg #[.int .i64 (2 + i), .string s]) ?_ rfl ?_
              · have hbF := blk_set (blk_set hb9 0 (.int .i64 (2 + i))) 1 (.string s)
                generalize (World.setCell _ _ _) = W at *
                have c0 := blk_cell (l := [_, _]) hbF 0 _ rfl
                have c1 := blk_cell (l := [_, _]) hbF 1 _ rfl
                simp [results, Tryz.results112, go_sem, c0, c1]
              · exact .inl ⟨q2, ((2 + i.toNat, s) : ItemS), .agg #[.int .i64 (2 + i), .string s], HE3.out, by omega, hq2.1, rfl, by unfold repItem; simp only [hiN], gr_set (p := ⟨w.heap.size, 1, none⟩) (gr_set (p := ⟨w.heap.size, 0, none⟩) hg (Nat.le_refl _) _) (Nat.le_refl _) _, (ha9.put2 hrl 0 _).put2 hrl 1 _⟩
            · go_wp2_with fail
              exact ⟨rfl, .inr ⟨by rw [HE2.out, hm2], c, a, rfl, hc, gr_trans hg08 hg9⟩⟩
          · simp only [hm] at HE2
            go_wp2_with fail
            exact ⟨rfl, .inr ⟨HE2.out, c, a, rfl, hc, gr_trans hg06 hg7⟩⟩
        · simp only [hm] at HE2
          go_wp2_with fail
          exact ⟨rfl, .inr ⟨HE2.out, c, a, rfl, hc, gr_trans hg05 hg6⟩⟩
end Go.Proofs.YtoilgmdfbibniaaGreatDoor
