/- What the row's list of variables gives the walks. -/
import Derived.Test.YtoilgmdfbibniaaGreatDoorRows
import Derived.Test.YtoilgmdfbibniaaGreatDoorLeast
import Derived.Lib.LaidU8
import Derived.WalkKit
import Derived.ProofKit
import Derived.OpenShut
set_option linter.unusedSimpArgs false
set_option linter.unusedVariables false
set_option maxRecDepth 100000
namespace Go.Proofs.YtoilgmdfbibniaaGreatDoor
open Go Go.RowKit

theorem tabIs_of_reads {P : Program} {W : World} {name : String} {k : IntKind} {zs : List Int} {g : Nat} {t e : TypeId} {n : Nat}
    (hg : P.globalNamed name = some g) (hty : (P.globals[g]?).map (·.type) = some t) (ht : P.underlying t = some (.array n e)) (he : P.underlying e = some (.int k)) (hce : P.cellsOf e = 1) (hct : P.cellsOf t = n)
    (h : Lib.VarReads P W name (Lib.tabData k zs)) : Lib.TabIs P W name k zs := by
  obtain ⟨g', t', cs, fuel, p, hg', ht', hvar, hd⟩ := h
  obtain rfl := Option.some.inj (hg.symm.trans hg')
  obtain rfl := Option.some.inj (hty.symm.trans ht')
  unfold Lib.TabIs
  rw [hvar, ← Lib.cells_of_tab ht he hce hct hd]
theorem iface_of_reads {P : Program} {W : World} {name : String} {g : Nat} {t : TypeId} {ms : _} {d : DataW Unit}
    (hg : P.globalNamed name = some g) (hty : (P.globals[g]?).map (·.type) = some t) (ht : P.underlying t = some (.interface ms))
    (h : Lib.VarReads P W name d) : ∃ ev, W.cell? ⟨g, 0, none⟩ = some ev ∧ (ev = .nilIface ∨ ∃ te pe, ev = .iface te pe) := by
  obtain ⟨g', t', cs, fuel, p, hg', ht', hvar, hd⟩ := h
  obtain rfl := Option.some.inj (hg.symm.trans hg')
  obtain rfl := Option.some.inj (hty.symm.trans ht')
  have hc := World.var?_cell hg hvar 0
  rw [← Array.getElem?_toList] at hc
  generalize cs.toList = l at *
  cases fuel with
  | zero => simp [DataW.trod] at hd
  | succ n =>
    unfold DataW.trod at hd
    rw [ht] at hd
    rcases l with _ | ⟨v, _ | ⟨v2, l⟩⟩
    · simp at hd
    · cases v <;> simp at hd
      all_goals first | exact ⟨_, hc, .inl rfl⟩ | exact ⟨_, hc, .inr ⟨_, _, rfl⟩⟩
    · cases v <;> simp at hd
def kindsZ : List Int := kindsL.map Int.ofNat
theorem kinds_data : (Rows.laid_caisson_lex_kinds (H := Unit)) = Lib.tabData .u8 kindsZ := by kernel_rfl
theorem p10_data : (Rows.laid_internal_strconv_uint64pow10 (H := Unit)) = Lib.tabData .u64 Lib.pow10Tab := by kernel_rfl
theorem first_data : Rows.laid_unicode_utf8_first = Lib.firstData := by kernel_rfl
theorem acc_data : (Rows.laid_unicode_utf8_acceptRanges (H := Unit)) = Lib.acceptData := by kernel_rfl
theorem u8x : U8Extra Tryz.prog Tryz.lays260_ren := by constructor <;> kernel_rfl
theorem glob_of {W : World} (h : laidMet Tryz.prog Rows.planLeastUptoRow.laid W) : Glob W := by
  have hk := Lib.laidMet.reads h (n := "caisson/lex.kinds") (d := Rows.laid_caisson_lex_kinds) (by simp [Rows.planLeastUptoRow])
  have hp := Lib.laidMet.reads h (n := "internal/strconv.uint64pow10") (d := Rows.laid_internal_strconv_uint64pow10) (by simp [Rows.planLeastUptoRow])
  have hf := Lib.laidMet.reads h (n := "unicode/utf8.first") (d := Rows.laid_unicode_utf8_first) (by simp [Rows.planLeastUptoRow])
  have ha := Lib.laidMet.reads h (n := "unicode/utf8.acceptRanges") (d := Rows.laid_unicode_utf8_acceptRanges) (by simp [Rows.planLeastUptoRow])
  have hs := Lib.laidMet.reads h (n := "strconv.ErrSyntax") (d := Rows.laid_strconv_ErrSyntax) (by simp [Rows.planLeastUptoRow])
  have hr := Lib.laidMet.reads h (n := "strconv.ErrRange") (d := Rows.laid_strconv_ErrRange) (by simp [Rows.planLeastUptoRow])
  rw [kinds_data] at hk
  rw [p10_data] at hp
  rw [first_data] at hf
  rw [acc_data] at ha
  have h7 := iface_of_reads (g := 7) (t := 178) (by kernel_rfl) (by kernel_rfl) Tryz.underlying178 hs
  have h8 := iface_of_reads (g := 8) (t := 178) (by kernel_rfl) (by kernel_rfl) Tryz.underlying178 hr
  have hsz : 9 ≤ W.heap.size := by
    obtain ⟨ev, hc, -⟩ := h8
    have := World.block_lt_of_cell? W _ hc
    exact this
  refine ⟨fun c hc => ?_, utf8Tabs_of_reads Tryz.lays260 u8x hf ha, tabIs_of_reads (g := 1) (t := 247) (e := 164) (n := 20) (by kernel_rfl) (by kernel_rfl) (by kernel_rfl) (by kernel_rfl) (by kernel_rfl) (by kernel_rfl) hp, h7, h8, hsz⟩
  have ht := (tabIs_of_reads (g := 0) (t := 167) (e := 5) (n := 128) (by kernel_rfl) (by kernel_rfl) (by kernel_rfl) (by kernel_rfl) (by kernel_rfl) (by kernel_rfl) hk).cell (g := 0) (by kernel_rfl) c (by show c < kindsZ.length; rw [show kindsZ.length = 128 by kernel_rfl]; exact hc)
  rw [ht]
  have : kindsZ.getD c 0 = ((kindsL.getD c 0 : Nat) : Int) := by
    unfold kindsZ
    simp only [List.getD, List.getElem?_map]
    cases kindsL[c]? <;> rfl
  rw [this]
end Go.Proofs.YtoilgmdfbibniaaGreatDoor
