/- package parse: the reader's small methods. -/
import Derived.Test.YtoilgmdfbibniaaGreatDoorWords
set_option linter.unusedSimpArgs false
set_option linter.unusedVariables false
set_option maxRecDepth 20000
namespace Go.Proofs.YtoilgmdfbibniaaGreatDoor
open Go Go.RowKit

theorem wCells_at (ws : List W3) : ∀ (p : Nat) (x : W3), ws[p]? = some x → (wCells ws)[p * 3 + 0]? = some (.int .i64 (x.1 : Int)) ∧ (wCells ws)[p * 3 + 1]? = some (.string x.2.1) ∧ (wCells ws)[p * 3 + 2]? = some (.int .i64 (x.2.2 : Int)) := by
  induction ws with
  | nil => intro p x h; simp at h
  | cons y ws ih =>
    intro p x h
    cases p with
    | zero => simp at h; subst h; simp [wCells]
    | succ p =>
      have := ih p x (by simpa using h)
      have e : ∀ j, (p + 1) * 3 + j = (p * 3 + j) + 3 := by intro j; omega
      simp only [e, wCells, List.flatMap_cons] at this ⊢
      simpa using this

/-- the reader lies in block rb: words ws, at place p -/
def AtR (v : Value) (rb : Nat) (ws : List W3) (p : Nat) (w : World) : Prop :=
  w.heap[rb]? = some (.cells #[v, .int .i64 (p : Int)] 124 (0, 0)) ∧ Rd (· < rb) w v ws.length (wCells ws) ∧ ws.length ≤ 4097
theorem AtR.keep {v : Value} {rb : Nat} {ws : List W3} {p : Nat} {w w' : World} (h : AtR v rb ws p w) (hg : w.grownBy w' none) : AtR v rb ws p w' := ⟨gr_blk hg h.1 (by simp), h.2.1.keep hg (by simp), h.2.2⟩
theorem AtR.put {v : Value} {rb : Nat} {ws : List W3} {p : Nat} {w : World} (h : AtR v rb ws p w) (q : Nat) : AtR v rb ws q (w.setCell ⟨rb, 1, none⟩ (.int .i64 (q : Int))) :=
  ⟨blk_set h.1 1 (.int .i64 (q : Int)), h.2.1.keep (r := some rb) (gr_setR (p := ⟨rb, 1, none⟩) (gr_refl _ _) rfl _) (fun k hk => by simp; omega), h.2.2⟩

set_option maxHeartbeats 1000000 in
theorem word_any {v : Value} {rb : Nat} {ws : List W3} {p : Nat} {w : World} {x : W3} (h : AtR v rb ws p w) (hx : ws[p]? = some x) :
    Calls Tryz.prog 156 #[.pointer (some ⟨rb, 0, none⟩)] w fun e w' => e = .returned (.agg #[.int .i64 (x.1 : Int), .string x.2.1, .int .i64 (x.2.2 : Int)]) ∧ w.grownBy w' none := by
  obtain ⟨hb, hr, hl⟩ := h
  have hp : p < ws.length := (List.getElem?_eq_some_iff.1 hx).1
  have hw := wCells_at ws p x hx
  obtain ⟨a, c, rfl, hnc, hcm, _⟩ := id hr
  obtain ⟨g, o, rfl, hgr, hgs, hcells⟩ := hr.at_ (j := p * 3) (by rw [wCells_length]; omega)
  have q0 : w.cell? ⟨g, o + p * 3, none⟩ = some (.int .i64 (x.1 : Int)) := hcells (p * 3) _ hw.1
  have q1 : w.cell? ⟨g, o + p * 3 + 1, none⟩ = some (.string x.2.1) := by rw [Nat.add_assoc]; exact hcells _ _ hw.2.1
  have q2 : w.cell? ⟨g, o + p * 3 + 2, none⟩ = some (.int .i64 (x.2.2 : Int)) := by rw [Nat.add_assoc]; exact hcells _ _ hw.2.2
  have r0 := blk_cell (l := [_, _]) hb 0 _ rfl
  have r1 := blk_cell (l := [_, _]) hb 1 _ rfl
  have hrs := blk_lt hb
  generalize ws.length = n at *
  obtain ⟨x1, x2, x3⟩ := x
  simp only at q0 q1 q2 ⊢
  clear hcells hw hr hx
  go_enter Tryz.func156, Tryz.ntmps156
  go_wp2_with fail
  have hga := World.grownBy_alloc w (.cells #[.int .i64 0, .string ⟨#[]⟩, .int .i64 0] 116) none
  have hbn := heap_new w (.cells #[.int .i64 0, .string ⟨#[]⟩, .int .i64 0] 116) _ rfl
  replace q0 := gr_cell hga q0 (by simp)
  replace q1 := gr_cell hga q1 (by simp)
  replace q2 := gr_cell hga q2 (by simp)
  replace r0 := gr_cell hga r0 (by simp)
  replace r1 := gr_cell hga r1 (by simp)
  clear hb
  generalize (w.alloc _) = w1 at *
  refine still_tail 10 (by kernel_rfl) (by kernel_rfl) ?_
  simp only [List.take_succ_cons, List.take_zero, List.drop_succ_cons, List.drop_zero]
  have hga := gr_drew hga
  have hbn : w1.drew.heap[w.heap.size]? = _ := hbn
  have q0 : w1.drew.cell? _ = _ := q0
  have q1 : w1.drew.cell? _ = _ := q1
  have q2 : w1.drew.cell? _ = _ := q2
  have r0 : w1.drew.cell? _ = _ := r0
  have r1 : w1.drew.cell? _ = _ := r1
  generalize w1.drew = w2 at *
  repeat still_step
  refine wpStill_nil ?_
  have p0 := blk_cell (l := [_, _, _]) hbn 0 _ rfl
  have p1 := blk_cell (l := [_, _, _]) hbn 1 _ rfl
  have p2 := blk_cell (l := [_, _, _]) hbn 2 _ rfl
  have pf := blk_free hbn
  go_wp2_with fail
  refine bodyPost_ret (v := .agg #[.int .i64 (x1 : Int), .string x2, .int .i64 (x3 : Int)]) ?_ rfl ⟨rfl, ?_⟩
  · have hbF := blk_set (blk_set (blk_set hbn 0 (.int .i64 (x1 : Int))) 1 (.string x2)) 2 (.int .i64 (x3 : Int))
    generalize (World.setCell _ _ _) = W at *
    have c0 := blk_cell (l := [_, _, _]) hbF 0 _ rfl
    have c1 := blk_cell (l := [_, _, _]) hbF 1 _ rfl
    have c2 := blk_cell (l := [_, _, _]) hbF 2 _ rfl
    simp [results, Tryz.results156, go_sem, c0, c1, c2]
  · exact gr_set (gr_set (gr_set hga (Nat.le_refl _) _) (Nat.le_refl _) _) (Nat.le_refl _) _

/-- is this word that keyword or sign? -/
def isW (x : W3) (s : ByteArray) : Bool := (x.1 == 2 || x.1 == 5) && decide (x.2.1 = s)

set_option maxHeartbeats 1000000 in
theorem is_any {v : Value} {rb : Nat} {ws : List W3} {p : Nat} {w : World} {x : W3} (h : AtR v rb ws p w) (hx : ws[p]? = some x) (s : ByteArray) :
    Calls Tryz.prog 157 #[.pointer (some ⟨rb, 0, none⟩), .string s] w fun e w' => e = .returned (.bool (isW x s)) ∧ w.grownBy w' none := by
  have HW := word_any h hx
  clear h hx
  obtain ⟨x1, x2, x3⟩ := x
  simp only at HW
  have hst : (x2.toList == s.toList) = decide (x2 = s) := streq x2 s
  have HS : Hid (isW (x1, x2, x3) s = ((x1 == 2 || x1 == 5) && decide (x2 = s))) := rfl
  generalize isW (x1, x2, x3) s = r at *
  by_cases h2 : x1 = 2
  · subst h2
    have HT : Hid (decide (x2 = s) = r) := by unfold Hid; rw [HS.out]; rfl
    clear HS
    generalize decide (x2 = s) = d at *
    go_enter Tryz.func157, Tryz.ntmps157
    go_wp2_with fail
    refine HW.mono ?_
    rintro e w' ⟨rfl, hg⟩
    go_wp2_with fail
    go_ret
    exact ⟨by rw [← HT.out]; simp [hst], gr_alloc hg _⟩
  · by_cases h5 : x1 = 5
    · subst h5
      have HT : Hid (decide (x2 = s) = r) := by unfold Hid; rw [HS.out]; rfl
      clear HS
      generalize decide (x2 = s) = d at *
      go_enter Tryz.func157, Tryz.ntmps157
      go_wp2_with fail
      refine HW.mono ?_
      rintro e w' ⟨rfl, hg⟩
      go_wp2_with fail
      go_ret
      exact ⟨by rw [← HT.out]; simp [hst], gr_alloc hg _⟩
    · have HT : Hid (r = false) := by unfold Hid; rw [HS.out]; simp [h2, h5]
      have e2 : ((x1 : Int) == 2) = false := by simp; omega
      have e5 : ((x1 : Int) == 5) = false := by simp; omega
      clear HS hst
      go_enter Tryz.func157, Tryz.ntmps157
      go_wp2_with fail
      refine HW.mono ?_
      rintro e w' ⟨rfl, hg⟩
      go_wp2_with fail
      go_ret
      exact ⟨by rw [HT.out]; simp, gr_alloc hg _⟩

/-- which of these the word is, -1: none -/
def idxW (x : W3) : List ByteArray → Nat → Int
  | [], _ => -1
  | s :: l, k => if isW x s = true then (k : Int) else idxW x l (k + 1)

set_option maxHeartbeats 1000000 in
theorem IndexFunc_any {v : Value} {rb : Nat} {ws : List W3} {p : Nat} {w : World} {x : W3} (h : AtR v rb ws p w) (hx : ws[p]? = some x) {F : Nat → Prop} {sv : Value} {l : List ByteArray} (hs : StrsR F w sv l) :
    Calls Tryz.prog 120 #[sv, .func (.func 157) #[.pointer (some ⟨rb, 0, none⟩)] #[]] w fun e w' => e = .returned (.int .i64 (idxW x l 0)) ∧ w.grownBy w' none := by
  have h' := hs
  obtain ⟨a, c, rfl, hc, hm, -⟩ := h'
  have hm' : l.length ≤ 9223372036854775807 := by unfold maxLen at hm; omega
  clear hm hc
  generalize hr : idxW x l 0 = r
  have HR : Hid (idxW x (l.drop 0) 0 = r) := hr
  clear hr
  go_enter Tryz.func120, Tryz.ntmps120
  go_wp2_with fail
  go_loopw [8] (fun i wr => ∃ k : Nat, k ≤ l.length ∧ i = .int .i64 k ∧ Hid (idxW x (l.drop k) k = r) ∧ w.grownBy wr none) (fun i _ => l.length - (intOf i).toNat)
  case atStart => exact ⟨0, Nat.zero_le _, rfl, HR, gr_refl _ _⟩
  case round =>
    obtain ⟨k, hk, rfl, hrk, hg⟩ := hrel
    have hsr := hs.keep hg (by simp)
    have har := h.keep hg
    by_cases hlt : k < l.length
    · obtain ⟨g, o, rfl, -, hgs, hcell⟩ := Rd.at_ hsr (j := k) (by simpa using hlt)
      have hxc : wr.cell? ⟨g, o + k, none⟩ = some (.string l[k]) := hcell k _ (by simp [hlt])
      have HT : Hid (idxW x (l.drop k) k = if isW x l[k] = true then (k : Int) else idxW x (l.drop (k + 1)) (k + 1)) := by
        unfold Hid; rw [List.drop_eq_getElem_cons hlt]; rfl
      have HI := is_any har hx l[k]
      clear hcell hsr har hs h
      generalize isW x l[k] = b at *
      generalize l[k] = y at hxc HI
      go_wp2_with fail
      refine HI.mono ?_
      rintro e w2 ⟨rfl, hg2⟩
      have hgg := gr_trans hg hg2
      cases b
      · have HU : Hid (idxW x (l.drop (k + 1)) (k + 1) = r) := by unfold Hid; rw [← hrk.out, HT.out, if_neg (by simp)]
        clear HT hrk
        go_wp2_with fail
        go_roundw
        case rel => exact ⟨k + 1, by omega, by go_num, HU, hgg⟩
        case measure => simp [intOf]; omega
      · have HU : Hid (r = (k : Int)) := by unfold Hid; rw [← hrk.out, HT.out, if_pos rfl]
        clear HT hrk
        go_wp2_with fail
        go_ret
        exact ⟨by rw [HU.out]; rfl, hgg⟩
    · have HU : Hid (r = -1) := by unfold Hid; rw [← hrk.out, List.drop_eq_nil_of_le (by omega)]; rfl
      clear hrk hsr har hs h
      go_wp2_with fail
      go_ret
      exact ⟨by rw [HU.out]; rfl, hg⟩

/-- the place behind 'take' -/
def nextW (x : W3) (l : List ByteArray) (p : Nat) : Nat := if 0 ≤ idxW x l 0 then p + 1 else p
theorem AtR.lt {v : Value} {rb : Nat} {ws : List W3} {p : Nat} {w : World} (h : AtR v rb ws p w) : rb < w.heap.size := blk_lt h.1

set_option maxHeartbeats 1000000 in
theorem take_any {v : Value} {rb : Nat} {ws : List W3} {p : Nat} {w : World} {x : W3} (h : AtR v rb ws p w) (hx : ws[p]? = some x) {F : Nat → Prop} {sv : Value} {l : List ByteArray} (hs : StrsR F w sv l) :
    Calls Tryz.prog 114 #[.pointer (some ⟨rb, 0, none⟩), sv] w fun e w' => e = .returned (.int .i64 (idxW x l 0)) ∧ w.grownBy w' (some rb) ∧ AtR v rb ws (nextW x l p) w' := by
  have HI := IndexFunc_any h hx hs
  have hp : p < ws.length := (List.getElem?_eq_some_iff.1 hx).1
  have hl := h.2.2
  have HN : Hid (nextW x l p = if 0 ≤ idxW x l 0 then p + 1 else p) := rfl
  generalize nextW x l p = q at *
  generalize idxW x l 0 = i at *
  have hl2 := h.lt
  go_enter Tryz.func114, Tryz.ntmps114
  go_wp2_with fail
  refine HI.mono ?_
  rintro e w2 ⟨rfl, hg⟩
  have h2 := h.keep hg
  clear HI hx h
  by_cases hi : 0 ≤ i
  · have HQ : Hid (q = p + 1) := by unfold Hid; rw [HN.out, if_pos hi]
    have r1 := blk_cell (l := [_, _]) h2.1 1 _ rfl
    have rf := blk_free h2.1
    clear HN
    go_wp2_with fail
    go_ret
    refine ⟨rfl, gr_setR (p := ⟨rb, 1, none⟩) (gr_some hg _) rfl _, ?_⟩
    rw [HQ.out]
    exact h2.put (p + 1)
  · have HQ : Hid (q = p) := by unfold Hid; rw [HN.out, if_neg hi]
    clear HN
    go_wp2_with fail
    go_ret
    exact ⟨rfl, gr_some hg _, by rw [HQ.out]; exact h2⟩

/-- what 'fail' ends a call with -/
def FaultP (c a : Int) : List PanicEntry := [{ v := .iface 48 (.agg #[.int .i64 c, .int .i64 a]), recovered := false }]
/-- the call gave up -/
def Bad (rb : Nat) (w : World) (e : Ending) (w' : World) : Prop := ∃ c a : Int, e = .panicked (FaultP c a) ∧ c ≠ 0 ∧ w.grownBy w' (some rb)

theorem field_kind (a : Int) (b : ByteArray) (c : Int) (w : World) : (Instr.field 116 (.agg #[.int .i64 a, .string b, .int .i64 c]) 0).run Tryz.prog w = .ok (.int .i64 a) w := by kernel_rfl
theorem field_at (a : Int) (b : ByteArray) (c : Int) (w : World) : (Instr.field 116 (.agg #[.int .i64 a, .string b, .int .i64 c]) 2).run Tryz.prog w = .ok (.int .i64 c) w := by kernel_rfl

theorem fail_reader {v : Value} {rb : Nat} {ws : List W3} {p : Nat} {w : World} {x : W3} (h : AtR v rb ws p w) (hx : ws[p]? = some x) (c : Int) :
    Calls Tryz.prog 154 #[.pointer (some ⟨rb, 0, none⟩), .int .i64 c] w fun e w' => e = .panicked (FaultP c x.2.2) ∧ w.grownBy w' none := by
  have HW := word_any h hx
  clear h hx
  obtain ⟨x1, x2, x3⟩ := x
  simp only at HW ⊢
  go_enter Tryz.func154, Tryz.ntmps154
  go_wp2_with fail
  refine HW.mono ?_
  rintro e w2 ⟨rfl, hg⟩
  go_wp2_with fail
  rw [field_at]
  go_wp2_with fail
  exact ⟨rfl, rfl, hg⟩

set_option maxHeartbeats 1000000 in
theorem of_any {v : Value} {rb : Nat} {ws : List W3} {p : Nat} {w : World} {x : W3} (h : AtR v rb ws p w) (hx : ws[p]? = some x) (kd : Nat) :
    Calls Tryz.prog 118 #[.pointer (some ⟨rb, 0, none⟩), .int .i64 (kd : Int)] w fun e w' => (x.1 = kd ∧ e = .returned (.string x.2.1) ∧ w.grownBy w' (some rb) ∧ AtR v rb ws (p + 1) w') ∨ (x.1 ≠ kd ∧ Bad rb w e w') := by
  have HW := word_any h hx
  have hp : p < ws.length := (List.getElem?_eq_some_iff.1 hx).1
  have hl := h.2.2
  have hl2 := h.lt
  by_cases hk : x.1 = kd
  · refine Calls.mono (R := fun e w' => e = .returned (.string x.2.1) ∧ w.grownBy w' (some rb) ∧ AtR v rb ws (p + 1) w') ?_ (fun e w' h => .inl ⟨hk, h⟩)
    obtain ⟨x1, x2, x3⟩ := x
    simp only at hk HW ⊢
    subst hk
    clear hx
    go_enter Tryz.func118, Tryz.ntmps118
    go_wp2_with fail
    refine HW.mono ?_
    rintro e w2 ⟨rfl, hg⟩
    have h2 := h.keep (gr_alloc hg (.cells #[.int .i64 (x1 : Int), .string x2, .int .i64 (x3 : Int)] 116))
    have hg2 := gr_alloc hg (.cells #[.int .i64 (x1 : Int), .string x2, .int .i64 (x3 : Int)] 116)
    have hb := heap_new w2 (.cells #[.int .i64 (x1 : Int), .string x2, .int .i64 (x3 : Int)] 116) _ rfl
    have hne : w2.heap.size ≠ rb := by have := hg.size; omega
    clear HW h
    have hb' := blk_set_ne hb hne 1 (.int .i64 ((p + 1 : Nat) : Int))
    have h3 := h2.put (p + 1)
    have r1 := blk_cell (l := [_, _]) h2.1 1 _ rfl
    have rf := blk_free h2.1
    have c0 := blk_cell (l := [_, _, _]) hb 0 _ rfl
    have c1 := blk_cell (l := [_, _, _]) hb 1 _ rfl
    have d1 := blk_cell (l := [_, _, _]) hb' 1 _ rfl
    go_wp2_with fail
    go_ret
    exact ⟨rfl, gr_setR (p := ⟨rb, 1, none⟩) (gr_some hg2 _) rfl _, h3⟩
  · refine Calls.mono (R := fun e w' => Bad rb w e w') ?_ (fun e w' h => .inr ⟨hk, h⟩)
    have HF := fun W hg => fail_reader (h.keep (w' := W) hg) hx 41
    obtain ⟨x1, x2, x3⟩ := x
    simp only at hk HW HF ⊢
    have hk' : ((x1 : Int) != (kd : Int)) = true := by simp; omega
    clear hx h
    go_enter Tryz.func118, Tryz.ntmps118
    go_wp2_with fail
    refine HW.mono ?_
    rintro e w2 ⟨rfl, hg⟩
    have hg2 := gr_alloc hg (.cells #[.int .i64 (x1 : Int), .string x2, .int .i64 (x3 : Int)] 116)
    have hb := heap_new w2 (.cells #[.int .i64 (x1 : Int), .string x2, .int .i64 (x3 : Int)] 116) _ rfl
    have c0 := blk_cell (l := [_, _, _]) hb 0 _ rfl
    clear HW
    go_wp2_with fail
    refine (HF _ hg2).mono ?_
    rintro e w3 ⟨rfl, hg3⟩
    go_wp2_with fail
    exact ⟨rfl, 41, _, rfl, by decide, gr_some (gr_trans hg2 hg3) _⟩
end Go.Proofs.YtoilgmdfbibniaaGreatDoor
