/- rows of texts and groups: how they are read; slices.IndexFunc, slices.ContainsFunc over them. -/
import Derived.Test.YtoilgmdfbibniaaGreatDoorCon
set_option linter.unusedSimpArgs false
set_option linter.unusedVariables false
set_option maxRecDepth 20000
namespace Go.Proofs.YtoilgmdfbibniaaGreatDoor
open Go Go.RowKit

set_option maxHeartbeats 1000000 in
theorem IndexFunc_R0 (m : FuncId)  (hcf : ∀ args w, (callFunc m args).run Tryz.prog w = .ok (.enter m args) w) (pb : List ByteArray → Bool) {F : Nat → Prop} {sv : Value} {l : List (List ByteArray)} {w : World} (hs : RowsR F w sv l)
    (HC : ∀ W a n c s, w.grownBy W none → s ∈ l → StrsR F W (.slice a n c) s → Calls Tryz.prog m #[.slice a n c] W fun e w' => e = .returned (.bool (pb s)) ∧ W.grownBy w' none) :
    Calls Tryz.prog 119 #[sv, .func (.func m) #[] #[]] w fun e w' => e = .returned (.int .i64 (idxP pb l 0)) ∧ w.grownBy w' none := by
  obtain ⟨us, hul, hrows, hrd⟩ := id hs
  obtain ⟨a, c, rfl, hc, hm, -⟩ := id hrd
  have hm' : l.length ≤ 9223372036854775807 := by unfold maxLen at hm; omega
  clear hm hc hs
  generalize hr : idxP pb l 0 = r
  have HR : Hid (idxP pb (l.drop 0) 0 = r) := hr
  clear hr
  go_enter Tryz.func119, Tryz.ntmps119
  go_wp2_with fail
  go_loopw [8] (fun i wr => ∃ k : Nat, k ≤ l.length ∧ i = .int .i64 k ∧ Hid (idxP pb (l.drop k) k = r) ∧ w.grownBy wr none) (fun i _ => l.length - (intOf i).toNat)
  case atStart => exact ⟨0, Nat.zero_le _, rfl, HR, gr_refl _ _⟩
  case round =>
    obtain ⟨k, hk, rfl, hrk, hg⟩ := hrel
    have hsr := hrd.keep hg (by simp)
    by_cases hlt : k < l.length
    · obtain ⟨g, o, rfl, -, hgs, hcell⟩ := Rd.at_ hsr (j := k) (by omega)
      have hu : us[k]? = some us[k] := List.getElem?_eq_getElem (by omega)
      have hxc : wr.cell? ⟨g, o + k, none⟩ = some us[k] := hcell k _ hu
      have hyr := (hrows k _ _ hu (List.getElem?_eq_getElem hlt)).keep hg (by simp)
      obtain ⟨a2, c2, h2, hc2, hm2, -⟩ := id hyr
      rw [h2] at hxc hyr
      have HT : Hid (idxP pb (l.drop k) k = if pb l[k] = true then (k : Int) else idxP pb (l.drop (k + 1)) (k + 1)) := by
        unfold Hid; rw [List.drop_eq_getElem_cons hlt]; rfl
      have HI := HC wr a2 _ c2 l[k] hg (List.getElem_mem hlt) hyr
      clear hcell hsr HC hu h2 hrows hyr hrd
      generalize pb l[k] = b at *
      generalize l[k] = y at hxc HI
      go_wp2_with fail
      refine HI.mono ?_
      rintro e w2 ⟨rfl, hg2⟩
      have hgg := gr_trans hg hg2
      clear HI
      cases b
      · have HU : Hid (idxP pb (l.drop (k + 1)) (k + 1) = r) := by unfold Hid; rw [← hrk.out, HT.out, if_neg (by simp)]
        clear HT hrk
        go_wp2_with fail
        go_roundw
        case rel => exact ⟨k + 1, by omega, by go_num, HU, hgg⟩
        case measure => simp [intOf]; omega
      · have HU : Hid (r = (k : Int)) := by unfold Hid; rw [← hrk.out, HT.out, if_pos rfl]
        clear HT hrk
        go_wp2_with fail
        go_ret
        exact ⟨by rw [HU.out]; rfl, hgg⟩
    · have HU : Hid (r = -1) := by unfold Hid; rw [← hrk.out, List.drop_eq_nil_of_le (by omega)]; rfl
      clear hrk hsr hrd hrows HC
      go_wp2_with fail
      go_ret
      exact ⟨by rw [HU.out]; rfl, hg⟩

theorem ContainsFunc_R0 (m : FuncId)  (hcf : ∀ args w, (callFunc m args).run Tryz.prog w = .ok (.enter m args) w) (pb : List ByteArray → Bool) {F : Nat → Prop} {sv : Value} {l : List (List ByteArray)} {w : World} (hs : RowsR F w sv l)
    (HC : ∀ W a n c s, w.grownBy W none → s ∈ l → StrsR F W (.slice a n c) s → Calls Tryz.prog m #[.slice a n c] W fun e w' => e = .returned (.bool (pb s)) ∧ W.grownBy w' none) :
    Calls Tryz.prog 67 #[sv, .func (.func m) #[] #[]] w fun e w' => e = .returned (.bool (l.any pb)) ∧ w.grownBy w' none := by
  have HI := IndexFunc_R0 m  hcf pb hs HC
  have HA : Hid (decide (0 ≤ idxP pb l 0) = l.any pb) := idxP_any pb l 0
  obtain ⟨us, hul, hrows, hrd⟩ := id hs
  obtain ⟨a, c, rfl, hc, hm, -⟩ := id hrd
  clear hs HC hrows hrd hm hc
  generalize idxP pb l 0 = i at *
  generalize l.any pb = r at *
  go_enter Tryz.func67, Tryz.ntmps67
  go_wp2_with fail
  refine HI.mono ?_
  rintro e w2 ⟨rfl, hg2⟩
  clear HI
  go_wp2_with fail
  go_ret
  exact ⟨by rw [← HA.out]; rfl, hg2⟩
set_option maxHeartbeats 1000000 in
theorem IndexFunc_R1 (m : FuncId) (cp : Value) (hcf : ∀ args w, (callFunc m args).run Tryz.prog w = .ok (.enter m args) w) (pb : List ByteArray → Bool) {F : Nat → Prop} {sv : Value} {l : List (List ByteArray)} {w : World} (hs : RowsR F w sv l)
    (HC : ∀ W a n c s, w.grownBy W none → s ∈ l → StrsR F W (.slice a n c) s → Calls Tryz.prog m #[.slice a n c, cp] W fun e w' => e = .returned (.bool (pb s)) ∧ W.grownBy w' none) :
    Calls Tryz.prog 119 #[sv, .func (.func m) #[] #[cp]] w fun e w' => e = .returned (.int .i64 (idxP pb l 0)) ∧ w.grownBy w' none := by
  obtain ⟨us, hul, hrows, hrd⟩ := id hs
  obtain ⟨a, c, rfl, hc, hm, -⟩ := id hrd
  have hm' : l.length ≤ 9223372036854775807 := by unfold maxLen at hm; omega
  clear hm hc hs
  generalize hr : idxP pb l 0 = r
  have HR : Hid (idxP pb (l.drop 0) 0 = r) := hr
  clear hr
  go_enter Tryz.func119, Tryz.ntmps119
  go_wp2_with fail
  go_loopw [8] (fun i wr => ∃ k : Nat, k ≤ l.length ∧ i = .int .i64 k ∧ Hid (idxP pb (l.drop k) k = r) ∧ w.grownBy wr none) (fun i _ => l.length - (intOf i).toNat)
  case atStart => exact ⟨0, Nat.zero_le _, rfl, HR, gr_refl _ _⟩
  case round =>
    obtain ⟨k, hk, rfl, hrk, hg⟩ := hrel
    have hsr := hrd.keep hg (by simp)
    by_cases hlt : k < l.length
    · obtain ⟨g, o, rfl, -, hgs, hcell⟩ := Rd.at_ hsr (j := k) (by omega)
      have hu : us[k]? = some us[k] := List.getElem?_eq_getElem (by omega)
      have hxc : wr.cell? ⟨g, o + k, none⟩ = some us[k] := hcell k _ hu
      have hyr := (hrows k _ _ hu (List.getElem?_eq_getElem hlt)).keep hg (by simp)
      obtain ⟨a2, c2, h2, hc2, hm2, -⟩ := id hyr
      rw [h2] at hxc hyr
      have HT : Hid (idxP pb (l.drop k) k = if pb l[k] = true then (k : Int) else idxP pb (l.drop (k + 1)) (k + 1)) := by
        unfold Hid; rw [List.drop_eq_getElem_cons hlt]; rfl
      have HI := HC wr a2 _ c2 l[k] hg (List.getElem_mem hlt) hyr
      clear hcell hsr HC hu h2 hrows hyr hrd
      generalize pb l[k] = b at *
      generalize l[k] = y at hxc HI
      go_wp2_with fail
      refine HI.mono ?_
      rintro e w2 ⟨rfl, hg2⟩
      have hgg := gr_trans hg hg2
      clear HI
      cases b
      · have HU : Hid (idxP pb (l.drop (k + 1)) (k + 1) = r) := by unfold Hid; rw [← hrk.out, HT.out, if_neg (by simp)]
        clear HT hrk
        go_wp2_with fail
        go_roundw
        case rel => exact ⟨k + 1, by omega, by go_num, HU, hgg⟩
        case measure => simp [intOf]; omega
      · have HU : Hid (r = (k : Int)) := by unfold Hid; rw [← hrk.out, HT.out, if_pos rfl]
        clear HT hrk
        go_wp2_with fail
        go_ret
        exact ⟨by rw [HU.out]; rfl, hgg⟩
    · have HU : Hid (r = -1) := by unfold Hid; rw [← hrk.out, List.drop_eq_nil_of_le (by omega)]; rfl
      clear hrk hsr hrd hrows HC
      go_wp2_with fail
      go_ret
      exact ⟨by rw [HU.out]; rfl, hg⟩

theorem ContainsFunc_R1 (m : FuncId) (cp : Value) (hcf : ∀ args w, (callFunc m args).run Tryz.prog w = .ok (.enter m args) w) (pb : List ByteArray → Bool) {F : Nat → Prop} {sv : Value} {l : List (List ByteArray)} {w : World} (hs : RowsR F w sv l)
    (HC : ∀ W a n c s, w.grownBy W none → s ∈ l → StrsR F W (.slice a n c) s → Calls Tryz.prog m #[.slice a n c, cp] W fun e w' => e = .returned (.bool (pb s)) ∧ W.grownBy w' none) :
    Calls Tryz.prog 67 #[sv, .func (.func m) #[] #[cp]] w fun e w' => e = .returned (.bool (l.any pb)) ∧ w.grownBy w' none := by
  have HI := IndexFunc_R1 m cp hcf pb hs HC
  have HA : Hid (decide (0 ≤ idxP pb l 0) = l.any pb) := idxP_any pb l 0
  obtain ⟨us, hul, hrows, hrd⟩ := id hs
  obtain ⟨a, c, rfl, hc, hm, -⟩ := id hrd
  clear hs HC hrows hrd hm hc
  generalize idxP pb l 0 = i at *
  generalize l.any pb = r at *
  go_enter Tryz.func67, Tryz.ntmps67
  go_wp2_with fail
  refine HI.mono ?_
  rintro e w2 ⟨rfl, hg2⟩
  clear HI
  go_wp2_with fail
  go_ret
  exact ⟨by rw [← HA.out]; rfl, hg2⟩

/-- a group: its kind, columns, sets -/
abbrev GroupS := Nat × List ByteArray × List (List ByteArray)
def GroupR (F : Nat → Prop) (w : World) (u : Value) (g : GroupS) : Prop := ∃ vc vs, u = .agg #[.int .i64 (g.1 : Int), vc, vs] ∧ StrsR F w vc g.2.1 ∧ RowsR F w vs g.2.2
theorem GroupR.keep {F : Nat → Prop} {w w' : World} {v : Value} {g : GroupS} {r : Option Nat} (h : GroupR F w v g) (hg : w.grownBy w' r) (hF : ∀ k, F k → some k ≠ r) : GroupR F w' v g := by
  obtain ⟨vc, vs, hu, h1, h2⟩ := h
  exact ⟨vc, vs, hu, h1.keep hg hF, h2.keep hg hF⟩
def cells3 : Value → List Value
  | .agg cs => cs.toList
  | v => [v]
/-- a slice of groups -/
def GroupsR (F : Nat → Prop) (w : World) (v : Value) (gs : List GroupS) : Prop :=
  ∃ us : List Value, us.length = gs.length ∧ (∀ (i : Nat) (u : Value) (y : GroupS), us[i]? = some u → gs[i]? = some y → GroupR F w u y) ∧ Rd F w v gs.length (us.flatMap cells3)
theorem GroupsR.keep {F : Nat → Prop} {w w' : World} {v : Value} {gs : List GroupS} {r : Option Nat} (h : GroupsR F w v gs) (hg : w.grownBy w' r) (hF : ∀ k, F k → some k ≠ r) : GroupsR F w' v gs := by
  obtain ⟨us, hl, hr, hd⟩ := h
  exact ⟨us, hl, fun i u y hu hy => (hr i u y hu hy).keep hg hF, hd.keep hg hF⟩

theorem flat_len {n : Nat} : ∀ (us : List Value), (∀ u ∈ us, (cells3 u).length = n) → (us.flatMap cells3).length = us.length * n := by
  intro us
  induction us with
  | nil => intro _; simp
  | cons u us ih =>
    intro h
    rw [List.flatMap_cons, List.length_append, ih (fun x hx => h x (by simp [hx])), h u (by simp), List.length_cons, Nat.succ_mul]; omega
theorem flat_at {n : Nat} : ∀ (us : List Value), (∀ u ∈ us, (cells3 u).length = n) → ∀ (k j : Nat) (u v : Value), us[k]? = some u → (cells3 u)[j]? = some v → (us.flatMap cells3)[k * n + j]? = some v := by
  intro us
  induction us with
  | nil => intro _ k j u v h; simp at h
  | cons x us ih =>
    intro h k j u v hu hv
    have hx := h x (by simp)
    cases k with
    | zero =>
      simp at hu
      subst hu
      rw [List.flatMap_cons, Nat.zero_mul, Nat.zero_add, List.getElem?_append_left (List.getElem?_eq_some_iff.1 hv).1]
      exact hv
    | succ k =>
      have := ih (fun y hy => h y (by simp [hy])) k j u v (by simpa using hu) hv
      rw [List.flatMap_cons, List.getElem?_append_right (by rw [hx, Nat.succ_mul]; omega), hx, show (k + 1) * n + j - n = k * n + j by rw [Nat.succ_mul]; omega]
      exact this
theorem GroupsR.len3 {F : Nat → Prop} {w : World} {gs : List GroupS} {us : List Value} (hl : us.length = gs.length) (h : ∀ (i : Nat) (u : Value) (y : GroupS), us[i]? = some u → gs[i]? = some y → GroupR F w u y) : ∀ u ∈ us, (cells3 u).length = 3 := by
  intro u hu
  obtain ⟨i, hi, rfl⟩ := List.getElem_of_mem hu
  obtain ⟨vc, vs, e, -⟩ := h i _ _ (List.getElem?_eq_getElem hi) (List.getElem?_eq_getElem (by omega))
  rw [e]; rfl
/-- the three cells of the k-th group -/
theorem GroupsR.at_ {F : Nat → Prop} {w : World} {a : Option Addr} {n c : Nat} {gs : List GroupS} (h : GroupsR F w (.slice a n c) gs) {k : Nat} (hk : k < gs.length) :
    ∃ g o vc vs, a = some ⟨g, o, none⟩ ∧ g < w.heap.size ∧ w.cell? ⟨g, o + k * 3, none⟩ = some (.int .i64 (gs[k].1 : Int)) ∧ w.cell? ⟨g, o + k * 3 + 1, none⟩ = some vc ∧ w.cell? ⟨g, o + k * 3 + 2, none⟩ = some vs ∧ StrsR F w vc gs[k].2.1 ∧ RowsR F w vs gs[k].2.2 := by
  obtain ⟨us, hl, hr, hd⟩ := h
  have h3 := GroupsR.len3 hl hr
  have hu : us[k]? = some us[k] := List.getElem?_eq_getElem (by omega)
  obtain ⟨vc, vs, e, hc, hs⟩ := hr k _ _ hu (List.getElem?_eq_getElem hk)
  obtain ⟨g, o, ha, -, hgs, hcell⟩ := Rd.at_ hd (j := k * 3) (by rw [flat_len us h3]; omega)
  have f := fun j v hv => hcell (k * 3 + j) v (flat_at us h3 k j _ v hu hv)
  refine ⟨g, o, vc, vs, ha, hgs, ?_, ?_, ?_, hc, hs⟩
  · exact f 0 _ (by rw [e]; rfl)
  · rw [Nat.add_assoc]; exact f 1 _ (by rw [e]; rfl)
  · rw [Nat.add_assoc]; exact f 2 _ (by rw [e]; rfl)
theorem StrsR.slice {F : Nat → Prop} {w : World} {v : Value} {l : List ByteArray} (h : StrsR F w v l) : ∃ a c, v = .slice a l.length c ∧ l.length ≤ c ∧ c ≤ maxLen := by
  obtain ⟨a, c, e, h1, h2, _⟩ := h; exact ⟨a, c, e, h1, h2⟩
theorem RowsR.slice {F : Nat → Prop} {w : World} {v : Value} {l : List (List ByteArray)} (h : RowsR F w v l) : ∃ a c, v = .slice a l.length c ∧ l.length ≤ c ∧ c ≤ maxLen := by
  obtain ⟨_, _, _, a, c, e, h1, h2, _⟩ := h; exact ⟨a, c, e, h1, h2⟩
theorem GroupsR.slice {F : Nat → Prop} {w : World} {v : Value} {l : List GroupS} (h : GroupsR F w v l) : ∃ a c, v = .slice a l.length c ∧ l.length ≤ c ∧ c ≤ maxLen := by
  obtain ⟨_, _, _, a, c, e, h1, h2, _⟩ := h; exact ⟨a, c, e, h1, h2⟩

set_option maxHeartbeats 1000000 in
theorem IndexFunc_G (m : FuncId) (hcf : ∀ args w, (callFunc m args).run Tryz.prog w = .ok (.enter m args) w) (pb : GroupS → Bool) {F : Nat → Prop} {sv : Value} {l : List GroupS} {w : World} (hs : GroupsR F w sv l)
    (HC : ∀ W vc vs s, w.grownBy W none → s ∈ l → StrsR F W vc s.2.1 → RowsR F W vs s.2.2 → Calls Tryz.prog m #[.agg #[.int .i64 (s.1 : Int), vc, vs]] W fun e w' => e = .returned (.bool (pb s)) ∧ W.grownBy w' none) :
    Calls Tryz.prog 121 #[sv, .func (.func m) #[] #[]] w fun e w' => e = .returned (.int .i64 (idxP pb l 0)) ∧ w.grownBy w' none := by
  obtain ⟨a, c, rfl, hc, hm⟩ := hs.slice
  have hm' : l.length ≤ 9223372036854775807 := by unfold maxLen at hm; omega
  clear hm hc
  generalize hr : idxP pb l 0 = r
  have HR : Hid (idxP pb (l.drop 0) 0 = r) := hr
  clear hr
  go_enter Tryz.func121, Tryz.ntmps121
  go_wp2_with fail
  go_loopw [8] (fun i wr => ∃ k : Nat, k ≤ l.length ∧ i = .int .i64 k ∧ Hid (idxP pb (l.drop k) k = r) ∧ w.grownBy wr none) (fun i _ => l.length - (intOf i).toNat)
  case atStart => exact ⟨0, Nat.zero_le _, rfl, HR, gr_refl _ _⟩
  case round =>
    obtain ⟨k, hk, rfl, hrk, hg⟩ := hrel
    have hsr := hs.keep hg (by simp)
    by_cases hlt : k < l.length
    · obtain ⟨g, o, vc, vs, rfl, hgs, h0, h1, h2, hvc, hvs⟩ := hsr.at_ hlt
      have HT : Hid (idxP pb (l.drop k) k = if pb l[k] = true then (k : Int) else idxP pb (l.drop (k + 1)) (k + 1)) := by
        unfold Hid; rw [List.drop_eq_getElem_cons hlt]; rfl
      have HI := HC wr vc vs l[k] hg (List.getElem_mem hlt) hvc hvs
      obtain ⟨ac1, cc1, rfl, -, -⟩ := hvc.slice
      obtain ⟨as1, cs1, rfl, -, -⟩ := hvs.slice
      clear hsr HC hvc hvs hs
      generalize pb l[k] = b at *
      generalize l[k].2.1.length = n1 at *
      generalize l[k].2.2.length = n2 at *
      generalize l[k].1 = y at *
      go_wp2_with fail
      refine HI.mono ?_
      rintro e w2 ⟨rfl, hg2⟩
      have hgg := gr_trans hg hg2
      clear HI
      cases b
      · have HU : Hid (idxP pb (l.drop (k + 1)) (k + 1) = r) := by unfold Hid; rw [← hrk.out, HT.out, if_neg (by simp)]
        clear HT hrk
        go_wp2_with fail
        go_roundw
        case rel => exact ⟨k + 1, by omega, by go_num, HU, hgg⟩
        case measure => simp [intOf]; omega
      · have HU : Hid (r = (k : Int)) := by unfold Hid; rw [← hrk.out, HT.out, if_pos rfl]
        clear HT hrk
        go_wp2_with fail
        go_ret
        exact ⟨by rw [HU.out]; rfl, hgg⟩
    · have HU : Hid (r = -1) := by unfold Hid; rw [← hrk.out, List.drop_eq_nil_of_le (by omega)]; rfl
      clear hrk hsr hs HC
      go_wp2_with fail
      go_ret
      exact ⟨by rw [HU.out]; rfl, hg⟩

theorem ContainsFunc_G (m : FuncId) (hcf : ∀ args w, (callFunc m args).run Tryz.prog w = .ok (.enter m args) w) (pb : GroupS → Bool) {F : Nat → Prop} {sv : Value} {l : List GroupS} {w : World} (hs : GroupsR F w sv l)
    (HC : ∀ W vc vs s, w.grownBy W none → s ∈ l → StrsR F W vc s.2.1 → RowsR F W vs s.2.2 → Calls Tryz.prog m #[.agg #[.int .i64 (s.1 : Int), vc, vs]] W fun e w' => e = .returned (.bool (pb s)) ∧ W.grownBy w' none) :
    Calls Tryz.prog 73 #[sv, .func (.func m) #[] #[]] w fun e w' => e = .returned (.bool (l.any pb)) ∧ w.grownBy w' none := by
  have HI := IndexFunc_G m hcf pb hs HC
  have HA : Hid (decide (0 ≤ idxP pb l 0) = l.any pb) := idxP_any pb l 0
  obtain ⟨a, c, rfl, hc, hm⟩ := hs.slice
  clear hs HC hm hc
  generalize idxP pb l 0 = i at *
  generalize l.any pb = r at *
  go_enter Tryz.func73, Tryz.ntmps73
  go_wp2_with fail
  refine HI.mono ?_
  rintro e w2 ⟨rfl, hg2⟩
  clear HI
  go_wp2_with fail
  go_ret
  exact ⟨by rw [← HA.out]; rfl, hg2⟩
end Go.Proofs.YtoilgmdfbibniaaGreatDoor
