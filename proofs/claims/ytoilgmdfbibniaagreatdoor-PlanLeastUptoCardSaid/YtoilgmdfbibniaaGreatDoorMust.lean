/- package parse: the reader's name, must. -/
import Derived.Test.YtoilgmdfbibniaaGreatDoorRead
set_option linter.unusedSimpArgs false
set_option linter.unusedVariables false
set_option maxRecDepth 20000
namespace Go.Proofs.YtoilgmdfbibniaaGreatDoor
open Go Go.RowKit

theorem strs_blk {F : Nat → Prop} {w : World} {b n : Nat} {l : List ByteArray} {e : TypeId} (h : w.heap[b]? = some (.cells (l.map Value.string).toArray e (0, 0))) (hF : F b) (hn : l.length = n) (hm : n ≤ maxLen) : StrsR F w (.slice (some ⟨b, 0, none⟩) n n) l := by
  subst hn
  refine ⟨_, _, rfl, Nat.le_refl _, hm, .inr ⟨b, 0, rfl, hF, fun j u hj => ?_⟩⟩
  rw [Nat.zero_add]
  exact blk_cell h j u hj

theorem name_any {v : Value} {rb : Nat} {ws : List W3} {p : Nat} {w : World} {x : W3} (h : AtR v rb ws p w) (hx : ws[p]? = some x) :
    Calls Tryz.prog 113 #[.pointer (some ⟨rb, 0, none⟩)] w fun e w' => (x.1 = 1 ∧ e = .returned (.string x.2.1) ∧ w.grownBy w' (some rb) ∧ AtR v rb ws (p + 1) w') ∨ (x.1 ≠ 1 ∧ Bad rb w e w') := by
  have HO := of_any h hx 1
  clear h hx
  go_enter Tryz.func113, Tryz.ntmps113
  go_wp2_with fail
  refine HO.mono ?_
  rintro e w2 (⟨h1, rfl, hg, ha⟩ | ⟨h1, c, a, rfl, hc, hg⟩)
  · go_wp2_with fail
    go_ret
    exact .inl ⟨h1, rfl, hg, ha⟩
  · go_wp2_with fail
    exact ⟨rfl, .inr ⟨h1, c, a, rfl, hc, hg⟩⟩

/-- each word but an End has one behind it -/
def EndOk (ws : List W3) : Prop := ∀ p x, ws[p]? = some x → x.1 ≠ 6 → p + 1 < ws.length
theorem isW_kind {x : W3} {s : ByteArray} (h : isW x s = true) : x.1 ≠ 6 := by
  unfold isW at h
  simp at h
  omega
theorem idxW_kind {x : W3} {l : List ByteArray} : ∀ {k : Nat}, 0 ≤ idxW x l k → x.1 ≠ 6 := by
  induction l with
  | nil => intro k h; simp [idxW] at h
  | cons s l ih =>
    intro k h
    rw [idxW] at h
    split at h
    · rename_i hw; exact isW_kind hw
    · exact ih h
theorem nextW_lt {ws : List W3} (he : EndOk ws) {p : Nat} {x : W3} (hx : ws[p]? = some x) (l : List ByteArray) : nextW x l p < ws.length := by
  unfold nextW
  split
  · rename_i h; exact he p x hx (idxW_kind h)
  · exact (List.getElem?_eq_some_iff.1 hx).1

def mustN (ws : List W3) : Nat → List ByteArray → Option Nat
  | p, [] => some p
  | p, s :: l => match ws[p]? with
    | some x => if isW x s = true then mustN ws (p + 1) l else none
    | none => none
theorem mustN_lt {ws : List W3} (he : EndOk ws) : ∀ (l : List ByteArray) (p q : Nat), p < ws.length → mustN ws p l = some q → q < ws.length ∧ p ≤ q := by
  intro l
  induction l with
  | nil => intro p q hp h; simp [mustN] at h; omega
  | cons s l ih =>
    intro p q hp h
    rw [mustN, List.getElem?_eq_getElem hp] at h
    simp only at h
    split at h
    · rename_i hw
      have := ih (p + 1) q (he p _ (List.getElem?_eq_getElem hp) (isW_kind hw)) h
      omega
    · cases h

set_option maxHeartbeats 1000000 in
theorem must_any {v : Value} {rb : Nat} {ws : List W3} {p : Nat} {w : World} (he : EndOk ws) (h : AtR v rb ws p w) (hp : p < ws.length) {sv : Value} {l : List ByteArray} (hs : StrsR (· ≠ rb) w sv l) :
    Calls Tryz.prog 110 #[.pointer (some ⟨rb, 0, none⟩), sv] w fun e w' => (∃ q, mustN ws p l = some q ∧ e = .returned (.tuple #[]) ∧ w.grownBy w' (some rb) ∧ AtR v rb ws q w') ∨ (mustN ws p l = none ∧ Bad rb w e w') := by
  have h' := hs
  obtain ⟨a, c, rfl, hc, hm, -⟩ := h'
  have hm' : l.length ≤ 9223372036854775807 := by unfold maxLen at hm; omega
  clear hm hc
  generalize hr : mustN ws p l = r
  have HR : Hid (mustN ws p (l.drop 0) = r) := hr
  clear hr
  have hrl := h.lt
  go_enter Tryz.func110, Tryz.ntmps110
  go_wp2_with fail
  go_loopw [8] (fun i wr => ∃ k q : Nat, k ≤ l.length ∧ i = .int .i64 k ∧ Hid (mustN ws q (l.drop k) = r) ∧ q < ws.length ∧ w.grownBy wr (some rb) ∧ AtR v rb ws q wr) (fun i _ => l.length - (intOf i).toNat)
  case atStart => exact ⟨0, p, Nat.zero_le _, rfl, HR, hp, gr_refl _ _, h⟩
  case round =>
    obtain ⟨k, q, hk, rfl, hrk, hq, hg, har⟩ := hrel
    have hsr := hs.keep hg (fun k hk => by simpa using hk)
    clear h
    by_cases hlt : k < l.length
    · obtain ⟨g, o, rfl, -, hgs, hcell⟩ := Rd.at_ hsr (j := k) (by simpa using hlt)
      have hxc : wr.cell? ⟨g, o + k, none⟩ = some (.string l[k]) := hcell k _ (by simp [hlt])
      have hx : ws[q]? = some ws[q] := List.getElem?_eq_getElem hq
      have HT : Hid (mustN ws q (l.drop k) = if isW ws[q] l[k] = true then mustN ws (q + 1) (l.drop (k + 1)) else none) := by
        unfold Hid; rw [List.drop_eq_getElem_cons hlt, mustN, hx]
      have hkd : isW ws[q] l[k] = true → q + 1 < ws.length := fun e => he q _ hx (isW_kind e)
      generalize ws[q] = x at *
      clear hcell hsr hs
      generalize l[k] = y at *
      have hga := World.grownBy_alloc wr (.cells #[.string y] 9) none
      have hb := heap_new wr (.cells #[.string y] 9) _ rfl
      have HTk := take_any (har.keep hga) hx (sv := .slice (some ⟨wr.heap.size, 0, none⟩) 1 1) (l := [y]) (F := fun _ => True) (strs_blk hb trivial rfl (by unfold maxLen; omega))
      have hfx := fun W hg => fail_reader (har.keep (w' := W) hg) hx 41
      have hi : idxW x [y] 0 = if isW x y = true then 0 else -1 := rfl
      have hn : nextW x [y] q = if isW x y = true then q + 1 else q := by unfold nextW; rw [hi]; split <;> simp
      rw [hi, hn] at HTk
      clear hi hn hb
      go_wp2_with fail
      refine HTk.mono ?_
      rintro e w2 ⟨rfl, hg2, ha2⟩
      have hgg := gr_trans (gr_trans hg (gr_some hga _)) hg2
      clear HTk
      cases hw : isW x y
      · have HU : Hid (r = none) := by unfold Hid; rw [← hrk.out, HT.out, hw]; rfl
        rw [hw, if_neg (by simp)] at ha2
        clear HT hrk hkd hfx
        have hfx := fail_reader ha2 hx 41
        go_wp2_with fail
        refine hfx.mono ?_
        rintro e w3 ⟨rfl, hg3⟩
        go_wp2_with fail
        exact ⟨rfl, .inr ⟨HU.out, 41, _, rfl, by decide, gr_trans hgg (gr_some hg3 _)⟩⟩
      · have HU : Hid (mustN ws (q + 1) (l.drop (k + 1)) = r) := by unfold Hid; rw [← hrk.out, HT.out, hw]; rfl
        rw [hw, if_pos rfl] at ha2
        have hq1 := hkd hw
        clear HT hrk hkd hfx
        go_wp2_with fail
        go_roundw
        case rel => exact ⟨k + 1, q + 1, by omega, by go_num, HU, hq1, hgg, ha2⟩
        case measure => simp [intOf]; omega
    · have HU : Hid (r = some q) := by unfold Hid; rw [← hrk.out, List.drop_eq_nil_of_le (by omega)]; rfl
      clear hrk hsr hs
      go_wp2_with fail
      go_end0
      exact .inl ⟨q, HU.out, rfl, hg, har⟩
end Go.Proofs.YtoilgmdfbibniaaGreatDoor
