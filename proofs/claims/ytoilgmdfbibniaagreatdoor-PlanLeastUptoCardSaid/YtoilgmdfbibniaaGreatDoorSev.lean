/- package parse: several things with commas between. -/
import Derived.Test.YtoilgmdfbibniaaGreatDoorMust
set_option linter.unusedSimpArgs false
set_option linter.unusedVariables false
set_option maxRecDepth 20000
namespace Go.Proofs.YtoilgmdfbibniaaGreatDoor
open Go Go.RowKit

/-- the element type of a block -/
def tyOf (w : World) (b : Nat) : Option TypeId := match w.heap[b]? with
  | some (.cells _ e _) => some e
  | _ => none
theorem tyOf_own {w : World} {base : Nat} {e : TypeId} {size n : Nat} {v : Value} {xs : List Value} (h : w.ownsRow base e size v n xs) (b : Nat) (hb : v.ownBlock = some b) : tyOf w b = some e := by
  rcases h.2 with ⟨rfl, _⟩ | ⟨g, cap, cur, rfl, _, hh, _⟩
  · simp [Value.ownBlock] at hb
  · simp [Value.ownBlock] at hb
    subst hb
    simp [tyOf, hh]
theorem Rd.ownT {w : World} {base : Nat} {e : TypeId} {size n : Nat} {v : Value} {xs : List Value} (h : w.ownsRow base e size v n xs) : Rd (fun b => base ≤ b ∧ tyOf w b = some e) w v n xs := by
  rcases h.2 with ⟨rfl, rfl⟩ | ⟨g, cap, cur, rfl, hb, hh, hn, hm, hs, ht⟩
  · have : xs = [] := List.eq_nil_of_length_eq_zero (by simpa using h.1)
    subst this
    exact Rd.nil _ _
  · refine ⟨_, cap, rfl, hn, hm, .inr ⟨g, 0, rfl, ⟨hb, by simp [tyOf, hh]⟩, fun j u hj => ?_⟩⟩
    have hc := h.cells (g := g) rfl j u hj
    have ha : (⟨g, 0, none⟩ : Addr).add j = ⟨g, 0 + j, none⟩ := by unfold Addr.add; split <;> simp_all
    rwa [ha] at hc
/-- what stands for an element is kept by what the reader does, and by an append to rows of elements -/
def Keeps {α : Type} (rb : Nat) (t : TypeId) (rep : World → Value → α → Prop) : Prop := ∀ w w' u y r, rep w u y → w.grownBy w' r → (∀ b, r = some b → b = rb ∨ tyOf w b = some t) → rep w' u y
theorem Keeps.rb {α : Type} {rb : Nat} {t : TypeId} {rep : World → Value → α → Prop} (h : Keeps rb t rep) {w w' : World} {u : Value} {y : α} (hr : rep w u y) (hg : w.grownBy w' (some rb)) : rep w' u y := h w w' u y (some rb) hr hg (fun b hb => .inl (by cases hb; rfl))

/-- a value's cells -/
def cellsOf : Value → List Value
  | .agg cs => cs.toList
  | v => [v]

theorem own_lit (w : World) (base : Nat) (ys : List Value) (e : TypeId) (size : Nat) (hy : ys.length = size) (hb : base ≤ w.heap.size) : (w.alloc (.cells ys.toArray e)).ownsRow base e size (.slice (some ⟨w.heap.size, 0, none⟩) 1 1) 1 ys :=
  ⟨by simpa using hy, .inr ⟨w.heap.size, 1, ys.toArray, rfl, hb, heap_alloc_new w _, Nat.le_refl _, by unfold maxLen; omega, by simpa using hy, by simp [hy.symm]⟩⟩

/-- A slice value whose elements stand for ys. -/
def SliceRep {α : Type} (rep : World → Value → α → Prop) (F : Nat → Prop) (w : World) (v : Value) (ys : List α) : Prop :=
  ∃ us : List Value, us.length = ys.length ∧ (∀ (i : Nat) (u : Value) (y : α), us[i]? = some u → ys[i]? = some y → rep w u y) ∧ Rd F w v ys.length (us.flatMap cellsOf)

def commaB : ByteArray := ⟨#[44]⟩
/-- behind the first of several -/
def sevGo {α : Type} (ws : List W3) (one : Nat → Option (α × Nat)) (p : Nat) (acc : List α) : Option (List α × Nat) :=
  if hp : p < ws.length then
    if isW ws[p] commaB = true then
      match one (p + 1) with
      | some (y, q) => if p < q then sevGo ws one q (acc ++ [y]) else none
      | none => none
    else some (acc, p)
  else none
termination_by ws.length - p
def sevF {α : Type} (ws : List W3) (one : Nat → Option (α × Nat)) (p : Nat) : Option (List α × Nat) :=
  match one p with
  | some (y, q) => sevGo ws one q [y]
  | none => none

/-- what a function of the reader's does: at place p it answers y and goes on to q, or gives up -/
def OneOk {α : Type} (m : FuncId) (v : Value) (rb : Nat) (ws : List W3) (rep : World → Value → α → Prop) (one : Nat → Option (α × Nat)) : Prop :=
  ∀ (p : Nat) (w : World), AtR v rb ws p w → p < ws.length → 9 ≤ w.heap.size → Calls Tryz.prog m #[.pointer (some ⟨rb, 0, none⟩)] w fun e w' =>
    (∃ q y u, one p = some (y, q) ∧ p < q ∧ q < ws.length ∧ e = .returned u ∧ rep w' u y ∧ w.grownBy w' (some rb) ∧ AtR v rb ws q w') ∨ (one p = none ∧ Bad rb w e w')

/-- the reader's place, read off the world -/
def placeOf (rb : Nat) (w : World) : Nat := match w.cell? ⟨rb, 1, none⟩ with
  | some x => (intOf x).toNat
  | none => 0
theorem placeOf_at {v : Value} {rb : Nat} {ws : List W3} {p : Nat} {w : World} (h : AtR v rb ws p w) : placeOf rb w = p := by
  unfold placeOf; rw [blk_cell (l := [_, _]) h.1 1 _ rfl]; simp [intOf]

/-- what 'several' has so far -/
structure SevInv {α : Type} (v : Value) (rb : Nat) (ws : List W3) (rep : World → Value → α → Prop) (one : Nat → Option (α × Nat)) (e : TypeId) (size : Nat) (p : Nat) (w : World) (r : Option (List α × Nat)) (s : Value) (q : Nat) (ys : List α) (us : List Value) (wr : World) : Prop where
  eq : Hid (sevGo ws one q ys = r)
  pq : p < q
  lt : q < ws.length
  ne : ys ≠ []
  len : ys.length ≤ q - p
  ul : us.length = ys.length
  reps : ∀ (i : Nat) (u : Value) (y : α), us[i]? = some u → ys[i]? = some y → rep wr u y
  own : wr.ownsRow w.heap.size e size s ys.length (us.flatMap cellsOf)
  gr : w.grownBy wr (some rb)
  at_ : AtR v rb ws q wr

theorem SevInv.grow {α : Type} {v : Value} {rb : Nat} {ws : List W3} {rep : World → Value → α → Prop} {one : Nat → Option (α × Nat)} {e : TypeId} {size p : Nat} {w : World} {r : Option (List α × Nat)} {s : Value} {q : Nat} {ys : List α} {us : List Value} {wr w2 : World}
    (h : SevInv v rb ws rep one e size p w r s q ys us wr) (hkeep : Keeps rb e rep) (hrl : rb < w.heap.size) (hg : wr.grownBy w2 (some rb)) (ha : AtR v rb ws q w2) : SevInv v rb ws rep one e size p w r s q ys us w2 :=
  ⟨h.eq, h.pq, h.lt, h.ne, h.len, h.ul, fun i u y hu hy => hkeep.rb (h.reps i u y hu hy) hg, h.own.kept hg (by
    cases hb : s.ownBlock with
    | none => exact .inl rfl
    | some b => exact .inr (fun e => by cases e; have := own_base h.own _ hb; omega)), gr_trans h.gr hg, ha⟩

theorem SevInv.push {α : Type} {v : Value} {rb : Nat} {ws : List W3} {rep : World → Value → α → Prop} {one : Nat → Option (α × Nat)} {e : TypeId} {size p : Nat} {w : World} {r : Option (List α × Nat)} {s s1 : Value} {q2 : Nat} {ys : List α} {us : List Value} {w4 w5 : World} {y : α} {u : Value}
    (hkeep : Keeps rb e rep) (hrl : rb < w.heap.size) (heq : Hid (sevGo ws one q2 (ys ++ [y]) = r)) (hpq : p < q2) (hlt : q2 < ws.length) (hlen : (ys ++ [y]).length ≤ q2 - p) (hul : us.length = ys.length) (hreps : ∀ (i : Nat) (u : Value) (y : α), us[i]? = some u → ys[i]? = some y → rep w4 u y) (hrep : rep w4 u y)
    (hown4 : w4.ownsRow w.heap.size e size s ys.length (us.flatMap cellsOf)) (hgr : w.grownBy w4 (some rb)) (ha : AtR v rb ws q2 w4) (hown : w5.ownsRow w.heap.size e size s1 (ys.length + 1) (us.flatMap cellsOf ++ cellsOf u)) (hg5 : w4.grownBy w5 s.ownBlock) : SevInv v rb ws rep one e size p w r s1 q2 (ys ++ [y]) (us ++ [u]) w5 := by
  have hob : ∀ b, s.ownBlock = some b → b = rb ∨ tyOf w4 b = some e := fun b hb => .inr (tyOf_own hown4 b hb)
  have hne : ∀ b, s.ownBlock = some b → b ≠ rb := fun b hb => by have := own_base hown4 b hb; omega
  refine ⟨heq, hpq, hlt, by simp, hlen, by simp [hul], ?_, by simpa using hown, ?_, ?_⟩
  · intro i u' y' hu hy
    by_cases hi : i < us.length
    · rw [List.getElem?_append_left hi] at hu
      rw [List.getElem?_append_left (by omega)] at hy
      exact hkeep _ _ _ _ _ (hreps i u' y' hu hy) hg5 hob
    · rw [List.getElem?_append_right (by omega)] at hu
      rw [List.getElem?_append_right (by omega)] at hy
      have h0 : i - us.length = 0 := by
        have := (List.getElem?_eq_some_iff.1 hu).1
        simp at this; omega
      have h0' : i - ys.length = 0 := by omega
      rw [h0] at hu; rw [h0'] at hy
      simp at hu hy
      subst hu hy
      exact hkeep _ _ _ _ _ hrep hg5 hob
  · exact gr_trans' hgr hg5 (fun b hb => own_base hown4 b hb)
  · refine ⟨gr_blk hg5 ha.1 (fun e => hne _ e.symm rfl), ha.2.1.keep hg5 (fun k hk e => by have := own_base hown4 _ e.symm; omega), ha.2.2⟩

theorem sevGo_step {α : Type} {ws : List W3} {one : Nat → Option (α × Nat)} {p : Nat} {acc : List α} {r : Option (List α × Nat)} (hp : p < ws.length) (hw : isW ws[p] commaB = true) {y : α} {q : Nat} (ho : one (p + 1) = some (y, q)) (hq : p < q) (h : Hid (sevGo ws one p acc = r)) : Hid (sevGo ws one q (acc ++ [y]) = r) := by
  unfold Hid; rw [← h.out, sevGo.eq_1 ws one p acc, dif_pos hp, if_pos hw, ho]; simp [hq]
theorem sevGo_bad {α : Type} {ws : List W3} {one : Nat → Option (α × Nat)} {p : Nat} {acc : List α} {r : Option (List α × Nat)} (hp : p < ws.length) (hw : isW ws[p] commaB = true) (ho : one (p + 1) = none) (h : Hid (sevGo ws one p acc = r)) : Hid (r = none) := by
  unfold Hid; rw [← h.out, sevGo.eq_1 ws one p acc, dif_pos hp, if_pos hw, ho]
theorem sevGo_end {α : Type} {ws : List W3} {one : Nat → Option (α × Nat)} {p : Nat} {acc : List α} {r : Option (List α × Nat)} (hp : p < ws.length) (hw : isW ws[p] commaB = false) (h : Hid (sevGo ws one p acc = r)) : Hid (r = some (acc, p)) := by
  unfold Hid; rw [← h.out, sevGo.eq_1 ws one p acc, dif_pos hp, if_neg (by simp [hw])]

theorem Clip_Item (g n c : Nat) (w : World) (h : n ≤ c) (hn : n ≤ 140737488355328) : Calls Tryz.prog 155 #[.slice (some ⟨g, 0, none⟩) n c] w fun e w' => e = .returned (.slice (some ⟨g, 0, none⟩) n n) ∧ w = w' := by
  go_enter Tryz.func155, Tryz.ntmps155
  go_wp2_with fail
  go_ret
  exact ⟨rfl, rfl⟩

set_option maxHeartbeats 2000000 in
theorem several_Item {α : Type} {m : FuncId} (hcf : ∀ args w, (callFunc m args).run Tryz.prog w = .ok (.enter m args) w) {v : Value} {rb : Nat} {ws : List W3} (he : EndOk ws) {rep : World → Value → α → Prop} (hkeep : Keeps rb 81 rep) (hshape : ∀ w u y, rep w u y → ∃ a b, u = .agg #[a, b] ∧ a.oneCell' = true ∧ b.oneCell' = true)
    {one : Nat → Option (α × Nat)} (HO : OneOk m v rb ws rep one) {p : Nat} {w : World} (h : AtR v rb ws p w) (hp : p < ws.length) (h9 : 9 ≤ w.heap.size) :
    Calls Tryz.prog 111 #[.pointer (some ⟨rb, 0, none⟩), .func (.func m) #[.pointer (some ⟨rb, 0, none⟩)] #[]] w fun e w' =>
      (∃ q ys u, sevF ws one p = some (ys, q) ∧ p < q ∧ q < ws.length ∧ ys ≠ [] ∧ ys.length ≤ 4097 ∧ e = .returned u ∧ SliceRep rep (fun b => b ≠ rb ∧ 9 ≤ b ∧ tyOf w' b = some 81) w' u ys ∧ w.grownBy w' (some rb) ∧ AtR v rb ws q w') ∨ (sevF ws one p = none ∧ Bad rb w e w') := by
  have hl := h.2.2
  have hrl := h.lt
  have HP := HO p w h hp h9
  have HF : Hid (sevF ws one p = match one p with | some (y, q) => sevGo ws one q [y] | none => none) := rfl
  generalize sevF ws one p = r at *
  clear h
  go_enter Tryz.func111, Tryz.ntmps111
  go_wp2_with fail
  refine HP.mono ?_
  clear HP
  rintro e w1 (⟨q, y, u, hone, hpq, hq, rfl, hrep, hg, ha⟩ | ⟨hone, c, a, rfl, hc, hg⟩)
  · rw [hone] at HF
    have HR : Hid (sevGo ws one q [y] = r) := HF.out.symm
    clear HF hone
    obtain ⟨d0, d1, rfl, h0, h1⟩ := hshape _ _ _ hrep
    have hga := World.grownBy_alloc w1 (.cells ([d0, d1]).toArray 81) (some rb)
    have hga0 := World.grownBy_alloc w1 (.cells ([d0, d1]).toArray 81) none
    have hsv : SevInv v rb ws rep one 81 2 p w r (.slice (some ⟨w1.heap.size, 0, none⟩) 1 1) q [y] [.agg #[d0, d1]] (w1.alloc (.cells ([d0, d1]).toArray 81)) :=
      ⟨HR, hpq, hq, by simp, by simp; omega, rfl, fun i u' y' hu hy => by
        cases i with
        | zero => simp at hu hy; subst hu hy; exact hkeep.rb hrep hga
        | succ i => simp at hu, own_lit w1 w.heap.size ([d0, d1]) 81 2 rfl hg.size, gr_trans hg hga, ha.keep hga0⟩
    go_wp2_with fail
    generalize (w1.alloc _) = w2 at *
    clear hga hga0 hrep hg ha HR
    generalize w1.heap.size = b1 at *
    go_loopw [5] (fun s wr => ∃ (q : Nat) (ys : List α) (us : List Value), SevInv v rb ws rep one 81 2 p w r s q ys us wr) (fun _ wr => ws.length - placeOf rb wr)
    case atStart => exact ⟨q, [y], _, hsv⟩
    case round =>
      clear hsv
      obtain ⟨q, ys, us, hsv⟩ := hrel
      have hqlt0 := hsv.lt
      have hx : ws[q]? = some ws[q] := List.getElem?_eq_getElem hqlt0
      have hga := World.grownBy_alloc wr (.cells #[.string commaB] 9) none
      have hb := heap_new wr (.cells #[.string commaB] 9) _ rfl
      have HTk := take_any (hsv.at_.keep hga) hx (sv := .slice (some ⟨wr.heap.size, 0, none⟩) 1 1) (l := [commaB]) (F := fun _ => True) (strs_blk hb trivial rfl (by unfold maxLen; omega))
      have hi : idxW ws[q] [commaB] 0 = if isW ws[q] commaB = true then 0 else -1 := rfl
      have hn : nextW ws[q] [commaB] q = if isW ws[q] commaB = true then q + 1 else q := by unfold nextW; rw [hi]; split <;> simp
      rw [hi, hn] at HTk
      have hpl := placeOf_at hsv.at_
      clear hi hn hb
      go_wp2_with fail
      refine HTk.mono ?_
      rintro e w3 ⟨rfl, hg3, ha3⟩
      have hgg := gr_trans (gr_some hga (some rb)) hg3
      clear HTk hga hg3
      cases hw : isW ws[q] commaB
      · have HE := sevGo_end hsv.lt hw hsv.eq
        rw [hw, if_neg (by simp)] at ha3
        have hs3 := hsv.grow hkeep hrl hgg ha3
        clear hsv hgg ha3 hx
        have hlen := hs3.len
        have hqlt := hs3.lt
        obtain ⟨g, c, rfl, hnc⟩ : ∃ g c, u5 = .slice (some ⟨g, 0, none⟩) ys.length c ∧ ys.length ≤ c := by
          rcases hs3.own.2 with ⟨_, h0⟩ | ⟨g, cap, cur, hv, _, _, hn, _⟩
          · exact absurd (List.eq_nil_of_length_eq_zero h0) hs3.ne
          · exact ⟨g, cap, hv, hn⟩
        go_wp2_with fail
        refine (Clip_Item g ys.length c w3 hnc (by omega)).mono ?_
        rintro e w' ⟨rfl, rfl⟩
        go_wp2_with fail
        go_ret
        refine .inl ⟨q, ys, _, HE.out, hs3.pq, hs3.lt, hs3.ne, by omega, rfl, ⟨us, hs3.ul, hs3.reps, ?_⟩, hs3.gr, hs3.at_⟩
        exact ((Rd.ownT hs3.own).clip (by unfold maxLen; omega)).mono (fun b hb => ⟨by have := hb.1; omega, by have := hb.1; omega, hb.2⟩)
      · rw [hw, if_pos rfl] at ha3
        have hq1 := he q _ hx (isW_kind hw)
        have HP2 := HO (q + 1) w3 ha3 hq1 (by have := hsv.gr.size; have := hgg.size; omega)
        go_wp2_with fail
        refine HP2.mono ?_
        clear HP2
        rintro e w4 (⟨q2, y2, u2, hone, hpq2, hq2, rfl, hrep2, hg4, ha4⟩ | ⟨hone, c, a, rfl, hc, hg4⟩)
        · have HE := sevGo_step hqlt0 hw hone (by omega) hsv.eq
          have hg34 := gr_trans hgg hg4
          have hown4 := hsv.own.kept hg34 (by
            cases hb : u5.ownBlock with
            | none => exact .inl rfl
            | some b => exact .inr (fun e => by cases e; have := own_base hsv.own _ hb; omega))
          have hreps4 : ∀ (i : Nat) (u : Value) (y : α), us[i]? = some u → ys[i]? = some y → rep w4 u y := fun i u y hu hy => hkeep.rb (hsv.reps i u y hu hy) hg34
          have hlen := hsv.len
          have hpq0 := hsv.pq
          have hgr4 := gr_trans hsv.gr hg34
          have hul := hsv.ul
          have hsz4 := hgr4.size
          have hpl4 := placeOf_at ha4
          have hlen2 : ys.length + 1 ≤ q2 - p := by
            clear hpl hpl4 hsz4 hl hrl
            omega
          clear hsv hgg hg34 ha3 hg4
          obtain ⟨d0, d1, rfl, h0, h1⟩ := hshape _ _ _ hrep2
          go_wp2_with (at_builtin; refine app1 rfl _ _ 41 81 rfl Tryz.underlying41 (.agg #[.int .i64 0, .string ⟨#[]⟩]) 2 24 (by kernel_rfl) rfl (by decide) hown4 [d0, d1] rfl rfl rfl (by intro u hu; simp at hu; rcases hu with rfl | rfl <;> assumption) (by omega) (by omega) (by unfold maxLen; omega) ?_)
          intro s1 w5 hown5 hg5 _ _
          have hs5 := SevInv.push (p := p) hkeep hrl HE (by omega) hq2 (by rw [List.length_append, List.length_singleton]; exact hlen2) hul hreps4 hrep2 hown4 hgr4 ha4 hown5 hg5
          have hpl5 := placeOf_at hs5.at_
          go_wp2_with fail
          go_roundw
          case rel => exact ⟨q2, _, _, hs5⟩
          case measure => rw [hpl5, hpl]; omega
        · have HE := sevGo_bad hqlt0 hw hone hsv.eq
          go_wp2_with fail
          exact ⟨rfl, .inr ⟨HE.out, c, a, rfl, hc, gr_trans (gr_trans hsv.gr hgg) hg4⟩⟩
  · go_wp2_with fail
    rw [hone] at HF
    exact ⟨rfl, .inr ⟨HF.out, c, a, rfl, hc, hg⟩⟩
theorem Clip_Value (g n c : Nat) (w : World) (h : n ≤ c) (hn : n ≤ 140737488355328) : Calls Tryz.prog 210 #[.slice (some ⟨g, 0, none⟩) n c] w fun e w' => e = .returned (.slice (some ⟨g, 0, none⟩) n n) ∧ w = w' := by
  go_enter Tryz.func210, Tryz.ntmps210
  go_wp2_with fail
  go_ret
  exact ⟨rfl, rfl⟩

set_option maxHeartbeats 2000000 in
theorem several_Value {α : Type} {m : FuncId} (hcf : ∀ args w, (callFunc m args).run Tryz.prog w = .ok (.enter m args) w) {v : Value} {rb : Nat} {ws : List W3} (he : EndOk ws) {rep : World → Value → α → Prop} (hkeep : Keeps rb 149 rep) (hshape : ∀ w u y, rep w u y → ∃ a b c, u = .agg #[a, b, c] ∧ a.oneCell' = true ∧ b.oneCell' = true ∧ c.oneCell' = true)
    {one : Nat → Option (α × Nat)} (HO : OneOk m v rb ws rep one) {p : Nat} {w : World} (h : AtR v rb ws p w) (hp : p < ws.length) (h9 : 9 ≤ w.heap.size) :
    Calls Tryz.prog 203 #[.pointer (some ⟨rb, 0, none⟩), .func (.func m) #[.pointer (some ⟨rb, 0, none⟩)] #[]] w fun e w' =>
      (∃ q ys u, sevF ws one p = some (ys, q) ∧ p < q ∧ q < ws.length ∧ ys ≠ [] ∧ ys.length ≤ 4097 ∧ e = .returned u ∧ SliceRep rep (fun b => b ≠ rb ∧ 9 ≤ b ∧ tyOf w' b = some 149) w' u ys ∧ w.grownBy w' (some rb) ∧ AtR v rb ws q w') ∨ (sevF ws one p = none ∧ Bad rb w e w') := by
  have hl := h.2.2
  have hrl := h.lt
  have HP := HO p w h hp h9
  have HF : Hid (sevF ws one p = match one p with | some (y, q) => sevGo ws one q [y] | none => none) := rfl
  generalize sevF ws one p = r at *
  clear h
  go_enter Tryz.func203, Tryz.ntmps203
  go_wp2_with fail
  refine HP.mono ?_
  clear HP
  rintro e w1 (⟨q, y, u, hone, hpq, hq, rfl, hrep, hg, ha⟩ | ⟨hone, c, a, rfl, hc, hg⟩)
  · rw [hone] at HF
    have HR : Hid (sevGo ws one q [y] = r) := HF.out.symm
    clear HF hone
    obtain ⟨d0, d1, d2, rfl, h0, h1, h2⟩ := hshape _ _ _ hrep
    have hga := World.grownBy_alloc w1 (.cells ([d0, d1, d2]).toArray 149) (some rb)
    have hga0 := World.grownBy_alloc w1 (.cells ([d0, d1, d2]).toArray 149) none
    have hsv : SevInv v rb ws rep one 149 3 p w r (.slice (some ⟨w1.heap.size, 0, none⟩) 1 1) q [y] [.agg #[d0, d1, d2]] (w1.alloc (.cells ([d0, d1, d2]).toArray 149)) :=
      ⟨HR, hpq, hq, by simp, by simp; omega, rfl, fun i u' y' hu hy => by
        cases i with
        | zero => simp at hu hy; subst hu hy; exact hkeep.rb hrep hga
        | succ i => simp at hu, own_lit w1 w.heap.size ([d0, d1, d2]) 149 3 rfl hg.size, gr_trans hg hga, ha.keep hga0⟩
    go_wp2_with fail
    generalize (w1.alloc _) = w2 at *
    clear hga hga0 hrep hg ha HR
    generalize w1.heap.size = b1 at *
    go_loopw [5] (fun s wr => ∃ (q : Nat) (ys : List α) (us : List Value), SevInv v rb ws rep one 149 3 p w r s q ys us wr) (fun _ wr => ws.length - placeOf rb wr)
    case atStart => exact ⟨q, [y], _, hsv⟩
    case round =>
      clear hsv
      obtain ⟨q, ys, us, hsv⟩ := hrel
      have hqlt0 := hsv.lt
      have hx : ws[q]? = some ws[q] := List.getElem?_eq_getElem hqlt0
      have hga := World.grownBy_alloc wr (.cells #[.string commaB] 9) none
      have hb := heap_new wr (.cells #[.string commaB] 9) _ rfl
      have HTk := take_any (hsv.at_.keep hga) hx (sv := .slice (some ⟨wr.heap.size, 0, none⟩) 1 1) (l := [commaB]) (F := fun _ => True) (strs_blk hb trivial rfl (by unfold maxLen; omega))
      have hi : idxW ws[q] [commaB] 0 = if isW ws[q] commaB = true then 0 else -1 := rfl
      have hn : nextW ws[q] [commaB] q = if isW ws[q] commaB = true then q + 1 else q := by unfold nextW; rw [hi]; split <;> simp
      rw [hi, hn] at HTk
      have hpl := placeOf_at hsv.at_
      clear hi hn hb
      go_wp2_with fail
      refine HTk.mono ?_
      rintro e w3 ⟨rfl, hg3, ha3⟩
      have hgg := gr_trans (gr_some hga (some rb)) hg3
      clear HTk hga hg3
      cases hw : isW ws[q] commaB
      · have HE := sevGo_end hsv.lt hw hsv.eq
        rw [hw, if_neg (by simp)] at ha3
        have hs3 := hsv.grow hkeep hrl hgg ha3
        clear hsv hgg ha3 hx
        have hlen := hs3.len
        have hqlt := hs3.lt
        obtain ⟨g, c, rfl, hnc⟩ : ∃ g c, u5 = .slice (some ⟨g, 0, none⟩) ys.length c ∧ ys.length ≤ c := by
          rcases hs3.own.2 with ⟨_, h0⟩ | ⟨g, cap, cur, hv, _, _, hn, _⟩
          · exact absurd (List.eq_nil_of_length_eq_zero h0) hs3.ne
          · exact ⟨g, cap, hv, hn⟩
        go_wp2_with fail
        refine (Clip_Value g ys.length c w3 hnc (by omega)).mono ?_
        rintro e w' ⟨rfl, rfl⟩
        go_wp2_with fail
        go_ret
        refine .inl ⟨q, ys, _, HE.out, hs3.pq, hs3.lt, hs3.ne, by omega, rfl, ⟨us, hs3.ul, hs3.reps, ?_⟩, hs3.gr, hs3.at_⟩
        exact ((Rd.ownT hs3.own).clip (by unfold maxLen; omega)).mono (fun b hb => ⟨by have := hb.1; omega, by have := hb.1; omega, hb.2⟩)
      · rw [hw, if_pos rfl] at ha3
        have hq1 := he q _ hx (isW_kind hw)
        have HP2 := HO (q + 1) w3 ha3 hq1 (by have := hsv.gr.size; have := hgg.size; omega)
        go_wp2_with fail
        refine HP2.mono ?_
        clear HP2
        rintro e w4 (⟨q2, y2, u2, hone, hpq2, hq2, rfl, hrep2, hg4, ha4⟩ | ⟨hone, c, a, rfl, hc, hg4⟩)
        · have HE := sevGo_step hqlt0 hw hone (by omega) hsv.eq
          have hg34 := gr_trans hgg hg4
          have hown4 := hsv.own.kept hg34 (by
            cases hb : u5.ownBlock with
            | none => exact .inl rfl
            | some b => exact .inr (fun e => by cases e; have := own_base hsv.own _ hb; omega))
          have hreps4 : ∀ (i : Nat) (u : Value) (y : α), us[i]? = some u → ys[i]? = some y → rep w4 u y := fun i u y hu hy => hkeep.rb (hsv.reps i u y hu hy) hg34
          have hlen := hsv.len
          have hpq0 := hsv.pq
          have hgr4 := gr_trans hsv.gr hg34
          have hul := hsv.ul
          have hsz4 := hgr4.size
          have hpl4 := placeOf_at ha4
          have hlen2 : ys.length + 1 ≤ q2 - p := by
            clear hpl hpl4 hsz4 hl hrl
            omega
          clear hsv hgg hg34 ha3 hg4
          obtain ⟨d0, d1, d2, rfl, h0, h1, h2⟩ := hshape _ _ _ hrep2
          go_wp2_with (at_builtin; refine app1 rfl _ _ 128 149 rfl Tryz.underlying128 (.agg #[.bool false, .string ⟨#[]⟩, .int .i64 0]) 3 32 (by kernel_rfl) rfl (by decide) hown4 [d0, d1, d2] rfl rfl rfl (by intro u hu; simp at hu; rcases hu with rfl | rfl | rfl <;> assumption) (by omega) (by omega) (by unfold maxLen; omega) ?_)
          intro s1 w5 hown5 hg5 _ _
          have hs5 := SevInv.push (p := p) hkeep hrl HE (by omega) hq2 (by rw [List.length_append, List.length_singleton]; exact hlen2) hul hreps4 hrep2 hown4 hgr4 ha4 hown5 hg5
          have hpl5 := placeOf_at hs5.at_
          go_wp2_with fail
          go_roundw
          case rel => exact ⟨q2, _, _, hs5⟩
          case measure => rw [hpl5, hpl]; omega
        · have HE := sevGo_bad hqlt0 hw hone hsv.eq
          go_wp2_with fail
          exact ⟨rfl, .inr ⟨HE.out, c, a, rfl, hc, gr_trans (gr_trans hsv.gr hgg) hg4⟩⟩
  · go_wp2_with fail
    rw [hone] at HF
    exact ⟨rfl, .inr ⟨HF.out, c, a, rfl, hc, hg⟩⟩
theorem Clip_Group (g n c : Nat) (w : World) (h : n ≤ c) (hn : n ≤ 140737488355328) : Calls Tryz.prog 161 #[.slice (some ⟨g, 0, none⟩) n c] w fun e w' => e = .returned (.slice (some ⟨g, 0, none⟩) n n) ∧ w = w' := by
  go_enter Tryz.func161, Tryz.ntmps161
  go_wp2_with fail
  go_ret
  exact ⟨rfl, rfl⟩

set_option maxHeartbeats 2000000 in
theorem several_Group {α : Type} {m : FuncId} (hcf : ∀ args w, (callFunc m args).run Tryz.prog w = .ok (.enter m args) w) {v : Value} {rb : Nat} {ws : List W3} (he : EndOk ws) {rep : World → Value → α → Prop} (hkeep : Keeps rb 91 rep) (hshape : ∀ w u y, rep w u y → ∃ a b c, u = .agg #[a, b, c] ∧ a.oneCell' = true ∧ b.oneCell' = true ∧ c.oneCell' = true)
    {one : Nat → Option (α × Nat)} (HO : OneOk m v rb ws rep one) {p : Nat} {w : World} (h : AtR v rb ws p w) (hp : p < ws.length) (h9 : 9 ≤ w.heap.size) :
    Calls Tryz.prog 116 #[.pointer (some ⟨rb, 0, none⟩), .func (.func m) #[.pointer (some ⟨rb, 0, none⟩)] #[]] w fun e w' =>
      (∃ q ys u, sevF ws one p = some (ys, q) ∧ p < q ∧ q < ws.length ∧ ys ≠ [] ∧ ys.length ≤ 4097 ∧ e = .returned u ∧ SliceRep rep (fun b => b ≠ rb ∧ 9 ≤ b ∧ tyOf w' b = some 91) w' u ys ∧ w.grownBy w' (some rb) ∧ AtR v rb ws q w') ∨ (sevF ws one p = none ∧ Bad rb w e w') := by
  have hl := h.2.2
  have hrl := h.lt
  have HP := HO p w h hp h9
  have HF : Hid (sevF ws one p = match one p with | some (y, q) => sevGo ws one q [y] | none => none) := rfl
  generalize sevF ws one p = r at *
  clear h
  go_enter Tryz.func116, Tryz.ntmps116
  go_wp2_with fail
  refine HP.mono ?_
  clear HP
  rintro e w1 (⟨q, y, u, hone, hpq, hq, rfl, hrep, hg, ha⟩ | ⟨hone, c, a, rfl, hc, hg⟩)
  · rw [hone] at HF
    have HR : Hid (sevGo ws one q [y] = r) := HF.out.symm
    clear HF hone
    obtain ⟨d0, d1, d2, rfl, h0, h1, h2⟩ := hshape _ _ _ hrep
    have hga := World.grownBy_alloc w1 (.cells ([d0, d1, d2]).toArray 91) (some rb)
    have hga0 := World.grownBy_alloc w1 (.cells ([d0, d1, d2]).toArray 91) none
    have hsv : SevInv v rb ws rep one 91 3 p w r (.slice (some ⟨w1.heap.size, 0, none⟩) 1 1) q [y] [.agg #[d0, d1, d2]] (w1.alloc (.cells ([d0, d1, d2]).toArray 91)) :=
      ⟨HR, hpq, hq, by simp, by simp; omega, rfl, fun i u' y' hu hy => by
        cases i with
        | zero => simp at hu hy; subst hu hy; exact hkeep.rb hrep hga
        | succ i => simp at hu, own_lit w1 w.heap.size ([d0, d1, d2]) 91 3 rfl hg.size, gr_trans hg hga, ha.keep hga0⟩
    go_wp2_with fail
    generalize (w1.alloc _) = w2 at *
    clear hga hga0 hrep hg ha HR
    generalize w1.heap.size = b1 at *
    go_loopw [5] (fun s wr => ∃ (q : Nat) (ys : List α) (us : List Value), SevInv v rb ws rep one 91 3 p w r s q ys us wr) (fun _ wr => ws.length - placeOf rb wr)
    case atStart => exact ⟨q, [y], _, hsv⟩
    case round =>
      clear hsv
      obtain ⟨q, ys, us, hsv⟩ := hrel
      have hqlt0 := hsv.lt
      have hx : ws[q]? = some ws[q] := List.getElem?_eq_getElem hqlt0
      have hga := World.grownBy_alloc wr (.cells #[.string commaB] 9) none
      have hb := heap_new wr (.cells #[.string commaB] 9) _ rfl
      have HTk := take_any (hsv.at_.keep hga) hx (sv := .slice (some ⟨wr.heap.size, 0, none⟩) 1 1) (l := [commaB]) (F := fun _ => True) (strs_blk hb trivial rfl (by unfold maxLen; omega))
      have hi : idxW ws[q] [commaB] 0 = if isW ws[q] commaB = true then 0 else -1 := rfl
      have hn : nextW ws[q] [commaB] q = if isW ws[q] commaB = true then q + 1 else q := by unfold nextW; rw [hi]; split <;> simp
      rw [hi, hn] at HTk
      have hpl := placeOf_at hsv.at_
      clear hi hn hb
      go_wp2_with fail
      refine HTk.mono ?_
      rintro e w3 ⟨rfl, hg3, ha3⟩
      have hgg := gr_trans (gr_some hga (some rb)) hg3
      clear HTk hga hg3
      cases hw : isW ws[q] commaB
      · have HE := sevGo_end hsv.lt hw hsv.eq
        rw [hw, if_neg (by simp)] at ha3
        have hs3 := hsv.grow hkeep hrl hgg ha3
        clear hsv hgg ha3 hx
        have hlen := hs3.len
        have hqlt := hs3.lt
        obtain ⟨g, c, rfl, hnc⟩ : ∃ g c, u5 = .slice (some ⟨g, 0, none⟩) ys.length c ∧ ys.length ≤ c := by
          rcases hs3.own.2 with ⟨_, h0⟩ | ⟨g, cap, cur, hv, _, _, hn, _⟩
          · exact absurd (List.eq_nil_of_length_eq_zero h0) hs3.ne
          · exact ⟨g, cap, hv, hn⟩
        go_wp2_with fail
        refine (Clip_Group g ys.length c w3 hnc (by omega)).mono ?_
        rintro e w' ⟨rfl, rfl⟩
        go_wp2_with fail
        go_ret
        refine .inl ⟨q, ys, _, HE.out, hs3.pq, hs3.lt, hs3.ne, by omega, rfl, ⟨us, hs3.ul, hs3.reps, ?_⟩, hs3.gr, hs3.at_⟩
        exact ((Rd.ownT hs3.own).clip (by unfold maxLen; omega)).mono (fun b hb => ⟨by have := hb.1; omega, by have := hb.1; omega, hb.2⟩)
      · rw [hw, if_pos rfl] at ha3
        have hq1 := he q _ hx (isW_kind hw)
        have HP2 := HO (q + 1) w3 ha3 hq1 (by have := hsv.gr.size; have := hgg.size; omega)
        go_wp2_with fail
        refine HP2.mono ?_
        clear HP2
        rintro e w4 (⟨q2, y2, u2, hone, hpq2, hq2, rfl, hrep2, hg4, ha4⟩ | ⟨hone, c, a, rfl, hc, hg4⟩)
        · have HE := sevGo_step hqlt0 hw hone (by omega) hsv.eq
          have hg34 := gr_trans hgg hg4
          have hown4 := hsv.own.kept hg34 (by
            cases hb : u5.ownBlock with
            | none => exact .inl rfl
            | some b => exact .inr (fun e => by cases e; have := own_base hsv.own _ hb; omega))
          have hreps4 : ∀ (i : Nat) (u : Value) (y : α), us[i]? = some u → ys[i]? = some y → rep w4 u y := fun i u y hu hy => hkeep.rb (hsv.reps i u y hu hy) hg34
          have hlen := hsv.len
          have hpq0 := hsv.pq
          have hgr4 := gr_trans hsv.gr hg34
          have hul := hsv.ul
          have hsz4 := hgr4.size
          have hpl4 := placeOf_at ha4
          have hlen2 : ys.length + 1 ≤ q2 - p := by
            clear hpl hpl4 hsz4 hl hrl
            omega
          clear hsv hgg hg34 ha3 hg4
          obtain ⟨d0, d1, d2, rfl, h0, h1, h2⟩ := hshape _ _ _ hrep2
          go_wp2_with (at_builtin; refine app1 rfl _ _ 43 91 rfl Tryz.underlying43 (.agg #[.int .i64 0, .slice none 0 0, .slice none 0 0]) 3 56 (by kernel_rfl) rfl (by decide) hown4 [d0, d1, d2] rfl rfl rfl (by intro u hu; simp at hu; rcases hu with rfl | rfl | rfl <;> assumption) (by omega) (by omega) (by unfold maxLen; omega) ?_)
          intro s1 w5 hown5 hg5 _ _
          have hs5 := SevInv.push (p := p) hkeep hrl HE (by omega) hq2 (by rw [List.length_append, List.length_singleton]; exact hlen2) hul hreps4 hrep2 hown4 hgr4 ha4 hown5 hg5
          have hpl5 := placeOf_at hs5.at_
          go_wp2_with fail
          go_roundw
          case rel => exact ⟨q2, _, _, hs5⟩
          case measure => rw [hpl5, hpl]; omega
        · have HE := sevGo_bad hqlt0 hw hone hsv.eq
          go_wp2_with fail
          exact ⟨rfl, .inr ⟨HE.out, c, a, rfl, hc, gr_trans (gr_trans hsv.gr hgg) hg4⟩⟩
  · go_wp2_with fail
    rw [hone] at HF
    exact ⟨rfl, .inr ⟨HF.out, c, a, rfl, hc, hg⟩⟩
theorem Clip_Str (g n c : Nat) (w : World) (h : n ≤ c) (hn : n ≤ 140737488355328) : Calls Tryz.prog 204 #[.slice (some ⟨g, 0, none⟩) n c] w fun e w' => e = .returned (.slice (some ⟨g, 0, none⟩) n n) ∧ w = w' := by
  go_enter Tryz.func204, Tryz.ntmps204
  go_wp2_with fail
  go_ret
  exact ⟨rfl, rfl⟩

set_option maxHeartbeats 2000000 in
theorem several_Str {α : Type} {m : FuncId} (hcf : ∀ args w, (callFunc m args).run Tryz.prog w = .ok (.enter m args) w) {v : Value} {rb : Nat} {ws : List W3} (he : EndOk ws) {rep : World → Value → α → Prop} (hkeep : Keeps rb 9 rep) (hshape : ∀ w u y, rep w u y → ∃ a, u = .string a ∧ (Value.string a).oneCell' = true)
    {one : Nat → Option (α × Nat)} (HO : OneOk m v rb ws rep one) {p : Nat} {w : World} (h : AtR v rb ws p w) (hp : p < ws.length) (h9 : 9 ≤ w.heap.size) :
    Calls Tryz.prog 189 #[.pointer (some ⟨rb, 0, none⟩), .func (.func m) #[.pointer (some ⟨rb, 0, none⟩)] #[]] w fun e w' =>
      (∃ q ys u, sevF ws one p = some (ys, q) ∧ p < q ∧ q < ws.length ∧ ys ≠ [] ∧ ys.length ≤ 4097 ∧ e = .returned u ∧ SliceRep rep (fun b => b ≠ rb ∧ 9 ≤ b ∧ tyOf w' b = some 9) w' u ys ∧ w.grownBy w' (some rb) ∧ AtR v rb ws q w') ∨ (sevF ws one p = none ∧ Bad rb w e w') := by
  have hl := h.2.2
  have hrl := h.lt
  have HP := HO p w h hp h9
  have HF : Hid (sevF ws one p = match one p with | some (y, q) => sevGo ws one q [y] | none => none) := rfl
  generalize sevF ws one p = r at *
  clear h
  go_enter Tryz.func189, Tryz.ntmps189
  go_wp2_with fail
  refine HP.mono ?_
  clear HP
  rintro e w1 (⟨q, y, u, hone, hpq, hq, rfl, hrep, hg, ha⟩ | ⟨hone, c, a, rfl, hc, hg⟩)
  · rw [hone] at HF
    have HR : Hid (sevGo ws one q [y] = r) := HF.out.symm
    clear HF hone
    obtain ⟨d0, rfl, h0⟩ := hshape _ _ _ hrep
    have hga := World.grownBy_alloc w1 (.cells ([.string d0]).toArray 9) (some rb)
    have hga0 := World.grownBy_alloc w1 (.cells ([.string d0]).toArray 9) none
    have hsv : SevInv v rb ws rep one 9 1 p w r (.slice (some ⟨w1.heap.size, 0, none⟩) 1 1) q [y] [.string d0] (w1.alloc (.cells ([.string d0]).toArray 9)) :=
      ⟨HR, hpq, hq, by simp, by simp; omega, rfl, fun i u' y' hu hy => by
        cases i with
        | zero => simp at hu hy; subst hu hy; exact hkeep.rb hrep hga
        | succ i => simp at hu, own_lit w1 w.heap.size ([.string d0]) 9 1 rfl hg.size, gr_trans hg hga, ha.keep hga0⟩
    go_wp2_with fail
    generalize (w1.alloc _) = w2 at *
    clear hga hga0 hrep hg ha HR
    generalize w1.heap.size = b1 at *
    go_loopw [5] (fun s wr => ∃ (q : Nat) (ys : List α) (us : List Value), SevInv v rb ws rep one 9 1 p w r s q ys us wr) (fun _ wr => ws.length - placeOf rb wr)
    case atStart => exact ⟨q, [y], _, hsv⟩
    case round =>
      clear hsv
      obtain ⟨q, ys, us, hsv⟩ := hrel
      have hqlt0 := hsv.lt
      have hx : ws[q]? = some ws[q] := List.getElem?_eq_getElem hqlt0
      have hga := World.grownBy_alloc wr (.cells #[.string commaB] 9) none
      have hb := heap_new wr (.cells #[.string commaB] 9) _ rfl
      have HTk := take_any (hsv.at_.keep hga) hx (sv := .slice (some ⟨wr.heap.size, 0, none⟩) 1 1) (l := [commaB]) (F := fun _ => True) (strs_blk hb trivial rfl (by unfold maxLen; omega))
      have hi : idxW ws[q] [commaB] 0 = if isW ws[q] commaB = true then 0 else -1 := rfl
      have hn : nextW ws[q] [commaB] q = if isW ws[q] commaB = true then q + 1 else q := by unfold nextW; rw [hi]; split <;> simp
      rw [hi, hn] at HTk
      have hpl := placeOf_at hsv.at_
      clear hi hn hb
      go_wp2_with fail
      refine HTk.mono ?_
      rintro e w3 ⟨rfl, hg3, ha3⟩
      have hgg := gr_trans (gr_some hga (some rb)) hg3
      clear HTk hga hg3
      cases hw : isW ws[q] commaB
      · have HE := sevGo_end hsv.lt hw hsv.eq
        rw [hw, if_neg (by simp)] at ha3
        have hs3 := hsv.grow hkeep hrl hgg ha3
        clear hsv hgg ha3 hx
        have hlen := hs3.len
        have hqlt := hs3.lt
        obtain ⟨g, c, rfl, hnc⟩ : ∃ g c, u5 = .slice (some ⟨g, 0, none⟩) ys.length c ∧ ys.length ≤ c := by
          rcases hs3.own.2 with ⟨_, h0⟩ | ⟨g, cap, cur, hv, _, _, hn, _⟩
          · exact absurd (List.eq_nil_of_length_eq_zero h0) hs3.ne
          · exact ⟨g, cap, hv, hn⟩
        go_wp2_with fail
        refine (Clip_Str g ys.length c w3 hnc (by omega)).mono ?_
        rintro e w' ⟨rfl, rfl⟩
        go_wp2_with fail
        go_ret
        refine .inl ⟨q, ys, _, HE.out, hs3.pq, hs3.lt, hs3.ne, by omega, rfl, ⟨us, hs3.ul, hs3.reps, ?_⟩, hs3.gr, hs3.at_⟩
        exact ((Rd.ownT hs3.own).clip (by unfold maxLen; omega)).mono (fun b hb => ⟨by have := hb.1; omega, by have := hb.1; omega, hb.2⟩)
      · rw [hw, if_pos rfl] at ha3
        have hq1 := he q _ hx (isW_kind hw)
        have HP2 := HO (q + 1) w3 ha3 hq1 (by have := hsv.gr.size; have := hgg.size; omega)
        go_wp2_with fail
        refine HP2.mono ?_
        clear HP2
        rintro e w4 (⟨q2, y2, u2, hone, hpq2, hq2, rfl, hrep2, hg4, ha4⟩ | ⟨hone, c, a, rfl, hc, hg4⟩)
        · have HE := sevGo_step hqlt0 hw hone (by omega) hsv.eq
          have hg34 := gr_trans hgg hg4
          have hown4 := hsv.own.kept hg34 (by
            cases hb : u5.ownBlock with
            | none => exact .inl rfl
            | some b => exact .inr (fun e => by cases e; have := own_base hsv.own _ hb; omega))
          have hreps4 : ∀ (i : Nat) (u : Value) (y : α), us[i]? = some u → ys[i]? = some y → rep w4 u y := fun i u y hu hy => hkeep.rb (hsv.reps i u y hu hy) hg34
          have hlen := hsv.len
          have hpq0 := hsv.pq
          have hgr4 := gr_trans hsv.gr hg34
          have hul := hsv.ul
          have hsz4 := hgr4.size
          have hpl4 := placeOf_at ha4
          have hlen2 : ys.length + 1 ≤ q2 - p := by
            clear hpl hpl4 hsz4 hl hrl
            omega
          clear hsv hgg hg34 ha3 hg4
          obtain ⟨d0, rfl, h0⟩ := hshape _ _ _ hrep2
          go_wp2_with (at_builtin; refine app1 rfl _ _ 23 9 rfl Tryz.underlying23 (.string ⟨#[]⟩) 1 16 (by kernel_rfl) rfl (by decide) hown4 [.string d0] rfl rfl rfl (by intro u hu; simp at hu; rcases hu with rfl <;> assumption) (by omega) (by omega) (by unfold maxLen; omega) ?_)
          intro s1 w5 hown5 hg5 _ _
          have hs5 := SevInv.push (p := p) hkeep hrl HE (by omega) hq2 (by rw [List.length_append, List.length_singleton]; exact hlen2) hul hreps4 hrep2 hown4 hgr4 ha4 hown5 hg5
          have hpl5 := placeOf_at hs5.at_
          go_wp2_with fail
          go_roundw
          case rel => exact ⟨q2, _, _, hs5⟩
          case measure => rw [hpl5, hpl]; omega
        · have HE := sevGo_bad hqlt0 hw hone hsv.eq
          go_wp2_with fail
          exact ⟨rfl, .inr ⟨HE.out, c, a, rfl, hc, gr_trans (gr_trans hsv.gr hgg) hg4⟩⟩
  · go_wp2_with fail
    rw [hone] at HF
    exact ⟨rfl, .inr ⟨HF.out, c, a, rfl, hc, hg⟩⟩
theorem Clip_Strs (g n c : Nat) (w : World) (h : n ≤ c) (hn : n ≤ 140737488355328) : Calls Tryz.prog 190 #[.slice (some ⟨g, 0, none⟩) n c] w fun e w' => e = .returned (.slice (some ⟨g, 0, none⟩) n n) ∧ w = w' := by
  go_enter Tryz.func190, Tryz.ntmps190
  go_wp2_with fail
  go_ret
  exact ⟨rfl, rfl⟩

set_option maxHeartbeats 2000000 in
theorem several_Strs {α : Type} {m : FuncId} (hcf : ∀ args w, (callFunc m args).run Tryz.prog w = .ok (.enter m args) w) {v : Value} {rb : Nat} {ws : List W3} (he : EndOk ws) {rep : World → Value → α → Prop} (hkeep : Keeps rb 23 rep) (hshape : ∀ w u y, rep w u y → ∃ a n c, u = .slice a n c ∧ (Value.slice a n c).oneCell' = true)
    {one : Nat → Option (α × Nat)} (HO : OneOk m v rb ws rep one) {p : Nat} {w : World} (h : AtR v rb ws p w) (hp : p < ws.length) (h9 : 9 ≤ w.heap.size) :
    Calls Tryz.prog 163 #[.pointer (some ⟨rb, 0, none⟩), .func (.func m) #[.pointer (some ⟨rb, 0, none⟩)] #[]] w fun e w' =>
      (∃ q ys u, sevF ws one p = some (ys, q) ∧ p < q ∧ q < ws.length ∧ ys ≠ [] ∧ ys.length ≤ 4097 ∧ e = .returned u ∧ SliceRep rep (fun b => b ≠ rb ∧ 9 ≤ b ∧ tyOf w' b = some 23) w' u ys ∧ w.grownBy w' (some rb) ∧ AtR v rb ws q w') ∨ (sevF ws one p = none ∧ Bad rb w e w') := by
  have hl := h.2.2
  have hrl := h.lt
  have HP := HO p w h hp h9
  have HF : Hid (sevF ws one p = match one p with | some (y, q) => sevGo ws one q [y] | none => none) := rfl
  generalize sevF ws one p = r at *
  clear h
  go_enter Tryz.func163, Tryz.ntmps163
  go_wp2_with fail
  refine HP.mono ?_
  clear HP
  rintro e w1 (⟨q, y, u, hone, hpq, hq, rfl, hrep, hg, ha⟩ | ⟨hone, c, a, rfl, hc, hg⟩)
  · rw [hone] at HF
    have HR : Hid (sevGo ws one q [y] = r) := HF.out.symm
    clear HF hone
    obtain ⟨d0, d1, d2, rfl, h0⟩ := hshape _ _ _ hrep
    have hga := World.grownBy_alloc w1 (.cells ([.slice d0 d1 d2]).toArray 23) (some rb)
    have hga0 := World.grownBy_alloc w1 (.cells ([.slice d0 d1 d2]).toArray 23) none
    have hsv : SevInv v rb ws rep one 23 1 p w r (.slice (some ⟨w1.heap.size, 0, none⟩) 1 1) q [y] [.slice d0 d1 d2] (w1.alloc (.cells ([.slice d0 d1 d2]).toArray 23)) :=
      ⟨HR, hpq, hq, by simp, by simp; omega, rfl, fun i u' y' hu hy => by
        cases i with
        | zero => simp at hu hy; subst hu hy; exact hkeep.rb hrep hga
        | succ i => simp at hu, own_lit w1 w.heap.size ([.slice d0 d1 d2]) 23 1 rfl hg.size, gr_trans hg hga, ha.keep hga0⟩
    go_wp2_with fail
    generalize (w1.alloc _) = w2 at *
    clear hga hga0 hrep hg ha HR
    generalize w1.heap.size = b1 at *
    go_loopw [5] (fun s wr => ∃ (q : Nat) (ys : List α) (us : List Value), SevInv v rb ws rep one 23 1 p w r s q ys us wr) (fun _ wr => ws.length - placeOf rb wr)
    case atStart => exact ⟨q, [y], _, hsv⟩
    case round =>
      clear hsv
      obtain ⟨q, ys, us, hsv⟩ := hrel
      have hqlt0 := hsv.lt
      have hx : ws[q]? = some ws[q] := List.getElem?_eq_getElem hqlt0
      have hga := World.grownBy_alloc wr (.cells #[.string commaB] 9) none
      have hb := heap_new wr (.cells #[.string commaB] 9) _ rfl
      have HTk := take_any (hsv.at_.keep hga) hx (sv := .slice (some ⟨wr.heap.size, 0, none⟩) 1 1) (l := [commaB]) (F := fun _ => True) (strs_blk hb trivial rfl (by unfold maxLen; omega))
      have hi : idxW ws[q] [commaB] 0 = if isW ws[q] commaB = true then 0 else -1 := rfl
      have hn : nextW ws[q] [commaB] q = if isW ws[q] commaB = true then q + 1 else q := by unfold nextW; rw [hi]; split <;> simp
      rw [hi, hn] at HTk
      have hpl := placeOf_at hsv.at_
      clear hi hn hb
      go_wp2_with fail
      refine HTk.mono ?_
      rintro e w3 ⟨rfl, hg3, ha3⟩
      have hgg := gr_trans (gr_some hga (some rb)) hg3
      clear HTk hga hg3
      cases hw : isW ws[q] commaB
      · have HE := sevGo_end hsv.lt hw hsv.eq
        rw [hw, if_neg (by simp)] at ha3
        have hs3 := hsv.grow hkeep hrl hgg ha3
        clear hsv hgg ha3 hx
        have hlen := hs3.len
        have hqlt := hs3.lt
        obtain ⟨g, c, rfl, hnc⟩ : ∃ g c, u5 = .slice (some ⟨g, 0, none⟩) ys.length c ∧ ys.length ≤ c := by
          rcases hs3.own.2 with ⟨_, h0⟩ | ⟨g, cap, cur, hv, _, _, hn, _⟩
          · exact absurd (List.eq_nil_of_length_eq_zero h0) hs3.ne
          · exact ⟨g, cap, hv, hn⟩
        go_wp2_with fail
        refine (Clip_Strs g ys.length c w3 hnc (by omega)).mono ?_
        rintro e w' ⟨rfl, rfl⟩
        go_wp2_with fail
        go_ret
        refine .inl ⟨q, ys, _, HE.out, hs3.pq, hs3.lt, hs3.ne, by omega, rfl, ⟨us, hs3.ul, hs3.reps, ?_⟩, hs3.gr, hs3.at_⟩
        exact ((Rd.ownT hs3.own).clip (by unfold maxLen; omega)).mono (fun b hb => ⟨by have := hb.1; omega, by have := hb.1; omega, hb.2⟩)
      · rw [hw, if_pos rfl] at ha3
        have hq1 := he q _ hx (isW_kind hw)
        have HP2 := HO (q + 1) w3 ha3 hq1 (by have := hsv.gr.size; have := hgg.size; omega)
        go_wp2_with fail
        refine HP2.mono ?_
        clear HP2
        rintro e w4 (⟨q2, y2, u2, hone, hpq2, hq2, rfl, hrep2, hg4, ha4⟩ | ⟨hone, c, a, rfl, hc, hg4⟩)
        · have HE := sevGo_step hqlt0 hw hone (by omega) hsv.eq
          have hg34 := gr_trans hgg hg4
          have hown4 := hsv.own.kept hg34 (by
            cases hb : u5.ownBlock with
            | none => exact .inl rfl
            | some b => exact .inr (fun e => by cases e; have := own_base hsv.own _ hb; omega))
          have hreps4 : ∀ (i : Nat) (u : Value) (y : α), us[i]? = some u → ys[i]? = some y → rep w4 u y := fun i u y hu hy => hkeep.rb (hsv.reps i u y hu hy) hg34
          have hlen := hsv.len
          have hpq0 := hsv.pq
          have hgr4 := gr_trans hsv.gr hg34
          have hul := hsv.ul
          have hsz4 := hgr4.size
          have hpl4 := placeOf_at ha4
          have hlen2 : ys.length + 1 ≤ q2 - p := by
            clear hpl hpl4 hsz4 hl hrl
            omega
          clear hsv hgg hg34 ha3 hg4
          obtain ⟨d0, d1, d2, rfl, h0⟩ := hshape _ _ _ hrep2
          go_wp2_with (at_builtin; refine app1 rfl _ _ 89 23 rfl Tryz.underlying89 (.slice none 0 0) 1 24 (by kernel_rfl) rfl (by decide) hown4 [.slice d0 d1 d2] rfl rfl rfl (by intro u hu; simp at hu; rcases hu with rfl <;> assumption) (by omega) (by omega) (by unfold maxLen; omega) ?_)
          intro s1 w5 hown5 hg5 _ _
          have hs5 := SevInv.push (p := p) hkeep hrl HE (by omega) hq2 (by rw [List.length_append, List.length_singleton]; exact hlen2) hul hreps4 hrep2 hown4 hgr4 ha4 hown5 hg5
          have hpl5 := placeOf_at hs5.at_
          go_wp2_with fail
          go_roundw
          case rel => exact ⟨q2, _, _, hs5⟩
          case measure => rw [hpl5, hpl]; omega
        · have HE := sevGo_bad hqlt0 hw hone hsv.eq
          go_wp2_with fail
          exact ⟨rfl, .inr ⟨HE.out, c, a, rfl, hc, gr_trans (gr_trans hsv.gr hgg) hg4⟩⟩
  · go_wp2_with fail
    rw [hone] at HF
    exact ⟨rfl, .inr ⟨HF.out, c, a, rfl, hc, hg⟩⟩
end Go.Proofs.YtoilgmdfbibniaaGreatDoor
