/- The chapter's text, its words, its query. Nothing of the program's runs. -/
import Derived.Test.YtoilgmdfbibniaaGreatDoorParse
set_option linter.unusedSimpArgs false
set_option linter.unusedVariables false
set_option maxRecDepth 20000
namespace Go.Proofs.YtoilgmdfbibniaaGreatDoor
open Go Go.RowKit

def s0 : ByteArray := (⟨#[83, 69, 76, 69, 67, 84, 32, 97, 44, 32, 67, 79, 85, 78, 84, 40, 42, 41, 32, 70, 82, 79, 77, 32, 102, 97, 99, 116, 115, 32, 71, 82, 79, 85, 80, 32, 66, 89, 32, 97]⟩ : ByteArray)
def ws0 : List W3 := [(2, (⟨#[83, 69, 76, 69, 67, 84]⟩ : ByteArray), 0), (1, (⟨#[97]⟩ : ByteArray), 7), (5, (⟨#[44]⟩ : ByteArray), 8), (2, (⟨#[67, 79, 85, 78, 84]⟩ : ByteArray), 10), (5, (⟨#[40]⟩ : ByteArray), 15), (5, (⟨#[42]⟩ : ByteArray), 16), (5, (⟨#[41]⟩ : ByteArray), 17), (2, (⟨#[70, 82, 79, 77]⟩ : ByteArray), 19), (1, (⟨#[102, 97, 99, 116, 115]⟩ : ByteArray), 24), (2, (⟨#[71, 82, 79, 85, 80]⟩ : ByteArray), 30), (2, (⟨#[66, 89]⟩ : ByteArray), 36), (1, (⟨#[97]⟩ : ByteArray), 39), (6, ⟨#[]⟩, 40)]
theorem words0 : wordsF s0 = .ok ws0 := by kernel_rfl
def y0 : QueryS Unit := ⟨[(1, (⟨#[97]⟩ : ByteArray)), (2, ⟨#[]⟩)], (⟨#[102, 97, 99, 116, 115]⟩ : ByteArray), none, true, [(1, [(⟨#[97]⟩ : ByteArray)], [])]⟩
theorem query0 : queryF ws0 (fun _ => none) 0 = some y0 := by kernel_rfl
theorem few0 : fewB y0.items y0.groups true = true := by kernel_rfl
theorem right0 : rightB y0.items y0.table y0.grouped y0.groups true = true := by kernel_rfl
theorem end0 : EndOk ws0 := by
  intro p x h h6
  have hp := (List.getElem?_eq_some_iff.1 h).1
  rcases Nat.lt_or_ge (p + 1) ws0.length with h' | h'
  · exact h'
  · exfalso
    have e : p = 12 := by have : ws0.length = 13 := rfl; omega
    subst e
    have : x = (6, ⟨#[]⟩, 40) := (Option.some.inj h).symm
    subst this
    exact h6 rfl
theorem nowhere0 : ¬ ∃ (q : Nat) (x : W3), ws0[q]? = some x ∧ isW x (⟨#[87, 72, 69, 82, 69]⟩ : ByteArray) = true := by
  rintro ⟨q, x, h, hw⟩
  have hm : x ∈ ws0 := List.mem_of_getElem? h
  have hall : ws0.all (fun x => !isW x (⟨#[87, 72, 69, 82, 69]⟩ : ByteArray)) = true := by kernel_rfl
  have := List.all_eq_true.1 hall x hm
  rw [hw] at this
  cases this

theorem Parse_0 {w : World} (hG : Glob w) : Calls Tryz.prog 10 #[.string s0] w (ParsePost w y0) :=
  Parse_ok hG (by decide) words0 end0 (by decide) (by decide) nowhere0 query0 rfl few0
end Go.Proofs.YtoilgmdfbibniaaGreatDoor
