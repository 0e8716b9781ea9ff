/- package sets: the closure 'cross' of Expand. -/
import Derived.Test.YtoilgmdfbibniaaGreatDoorSets
set_option linter.unusedSimpArgs false
set_option linter.unusedVariables false
set_option maxRecDepth 20000
namespace Go.Proofs.YtoilgmdfbibniaaGreatDoor
open Go Go.RowKit

theorem infoInt : (Tryz.prog.info? 3).map (fun i => (i.zero, i.size, i.bytes)) = some (some (.int .i64 0), 1, 8) := by kernel_rfl

def crossG : List (List Int) → Int → List Int → List Int
  | [], set, out => if 64 < out.length then out else out ++ [set]
  | l :: each, set, out => if 64 < out.length then out else l.foldl (fun o s => crossG each (bits .or .i64 set s) o) out

/-- a slice of rows of numbers -/
def EachR (F : Nat → Prop) (w : World) (v : Value) (ess : List (List Int)) : Prop :=
  ∃ us : List Value, us.length = ess.length ∧ (∀ (i : Nat) (u : Value) (y : List Int), us[i]? = some u → ess[i]? = some y → IntsR F w u y) ∧ Rd F w v ess.length us

/-- what cross has at hand -/
structure CrossSt (ob eb cb : Nat) (ess : List (List Int)) (out : List Int) (w : World) : Prop where
  o : ∃ v, w.heap[ob]? = some (.cells #[v] 25 (0, 0)) ∧ w.ownsRow (ob + 2) 3 1 v out.length (out.map (Value.int .i64))
  e : ∃ a c, w.heap[eb]? = some (.cells #[.slice a ess.length c] 156 (0, 0)) ∧ EachR (· < ob) w (.slice a ess.length c) ess
  c : w.heap[cb]? = some (.cells #[.func (.func 94) #[] #[.pointer (some ⟨ob, 0, none⟩), .pointer (some ⟨eb, 0, none⟩), .pointer (some ⟨cb, 0, none⟩)]] 158 (0, 0))
  len : out.length ≤ 65
/-- all below ob + 2 but ob is as it was -/
structure CrossFr (ob : Nat) (w w' : World) : Prop where
  os : w'.os = w.os
  tape : w'.tape = w.tape
  output : w'.output = w.output
  size : w.heap.size ≤ w'.heap.size
  block : ∀ k, k < ob + 2 → k ≠ ob → w'.heap[k]? = w.heap[k]?
theorem CrossFr.refl (ob : Nat) (w : World) : CrossFr ob w w := ⟨rfl, rfl, rfl, Nat.le_refl _, fun _ _ _ => rfl⟩
theorem CrossFr.trans {ob : Nat} {w w1 w2 : World} (h : CrossFr ob w w1) (k : CrossFr ob w1 w2) : CrossFr ob w w2 :=
  ⟨k.os.trans h.os, k.tape.trans h.tape, k.output.trans h.output, Nat.le_trans h.size k.size, fun i hi hr => (k.block i hi hr).trans (h.block i hi hr)⟩

theorem Rd.fr {ob : Nat} {w w' : World} {u : Value} {m : Nat} {cs : List Value} (h : Rd (· < ob) w u m cs) (hfr : CrossFr ob w w') : Rd (· < ob) w' u m cs := by
  obtain ⟨a, c, hv, hn, hm, h⟩ := h
  refine ⟨a, c, hv, hn, hm, ?_⟩
  rcases h with h | ⟨g, o, ha, hf, h⟩
  · exact .inl h
  · refine .inr ⟨g, o, ha, hf, fun j u hj => ?_⟩
    have := h j u hj
    rw [← this]
    exact World.cell?_of_block (hfr.block g (by have : g < ob := hf; omega) (by have : g < ob := hf; omega))

set_option maxHeartbeats 2000000 in
theorem cross_any (ob eb cb : Nat) (ess : List (List Int)) (he : eb < ob) (hc : cb = ob + 1) : ∀ (n at_ : Nat), ess.length - at_ = n → at_ ≤ ess.length → ∀ (set : Int) (out : List Int) (w : World), CrossSt ob eb cb ess out w →
    Calls Tryz.prog 94 #[.int .i64 (at_ : Int), .int .i64 set, .pointer (some ⟨ob, 0, none⟩), .pointer (some ⟨eb, 0, none⟩), .pointer (some ⟨cb, 0, none⟩)] w fun e w' =>
      e = .returned (.tuple #[]) ∧ CrossSt ob eb cb ess (crossG (ess.drop at_) set out) w' ∧ CrossFr ob w w' := by
  subst hc
  intro n
  induction n with
  | zero =>
    intro at_ hn ha set out w hst
    obtain rfl : at_ = ess.length := by omega
    have HS : Hid (crossG (ess.drop ess.length) set out = if 64 < out.length then out else out ++ [set]) := by unfold Hid; rw [List.drop_eq_nil_of_le (Nat.le_refl _)]; rfl
    generalize crossG (ess.drop ess.length) set out = r at *
    obtain ⟨v, hob, hown⟩ := hst.o
    obtain ⟨a, c, heb, hea⟩ := hst.e
    have hcb := hst.c
    have hl := hst.len
    have hlv : ∃ ao co, v = .slice ao out.length co := by
      rcases hown.2 with ⟨rfl, h⟩ | ⟨g, cap, cur, rfl, _⟩
      · exact ⟨none, 0, by rw [h]⟩
      · exact ⟨_, _, rfl⟩
    obtain ⟨ao, co, rfl⟩ := hlv
    have q0 := blk_cell (l := [_]) hob 0 _ rfl
    have qf := blk_free hob
    have q1 := blk_cell (l := [_]) heb 0 _ rfl
    have hgs := blk_lt hob
    have hgs1 := blk_lt heb
    have hgs2 := blk_lt hcb
    by_cases h64 : 64 < out.length
    · have HR : Hid (r = out) := by unfold Hid; rw [HS.out, if_pos h64]
      go_enter Tryz.func94, Tryz.ntmps94
      go_wp2_with fail
      refine bodyPost_ret (results_none rfl _ _ _) rfl ?_
      exact ⟨rfl, by rw [HR.out]; exact hst, CrossFr.refl _ _⟩
    · have HR : Hid (r = out ++ [set]) := by unfold Hid; rw [HS.out, if_neg h64]
      clear HS
      go_enter Tryz.func94, Tryz.ntmps94
      go_wp2_with (at_builtin; refine app1 rfl _ _ 25 3 rfl Tryz.underlying25 (.int .i64 0) 1 8 infoInt rfl (by decide) hown [.int .i64 set] rfl rfl rfl (by intro u hu; simp at hu; subst hu; rfl) (by omega) (by omega) (by unfold maxLen; omega) ?_)
      intro v1 w1 hown1 hg1 hat hne
      have hob1 := gr_blk hg1 hob (fun e => by have := own_base hown _ e.symm; omega)
      have p0 := blk_cell (l := [_]) hob1 0 _ rfl
      have pf := blk_free hob1
      have hgs3 := blk_lt hob1
      have hlv : ∃ ao co, v1 = .slice ao (out.length + 1) co := by
        rcases hown1.2 with ⟨rfl, h⟩ | ⟨g, cap, cur, rfl, _⟩
        · exact absurd rfl hne
        · exact ⟨_, _, rfl⟩
      obtain ⟨a1, c1, rfl⟩ := hlv
      have hfr : CrossFr ob w (w1.setCell ⟨ob, 0, none⟩ (.slice a1 (out.length + 1) c1)) :=
        ⟨hg1.os, hg1.tape, hg1.output, by rw [size_set]; exact hg1.size, fun k hk hne => (Below.heap_setCell w1 ⟨ob, 0, none⟩ _ k hne).trans (by
          rcases Nat.lt_or_ge k w.heap.size with hk2 | hk2
          · exact hg1.block k hk2 (fun e => by have := own_base hown _ e.symm; omega)
          · omega)⟩
      have hst2 : CrossSt ob eb (ob + 1) ess (out ++ [set]) (w1.setCell ⟨ob, 0, none⟩ (.slice a1 (out.length + 1) c1)) := by
        refine ⟨⟨_, blk_set hob1 0 _, ?_⟩, ⟨a, c, ?_, ?_⟩, ?_, by simp; omega⟩
        · have h2 := hown1.kept (row := some ob) (gr_setR (p := ⟨ob, 0, none⟩) (gr_refl w1 _) rfl (.slice a1 (out.length + 1) c1)) (.inr (fun e => by have := own_base hown1 _ e; omega))
          simpa using h2
        · rw [hfr.block eb (by omega) (by omega)]; exact heb
        · obtain ⟨us, hul, hr, hrd⟩ := hea
          exact ⟨us, hul, fun i u y hu hy => Rd.fr (hr i u y hu hy) hfr, Rd.fr hrd hfr⟩
        · rw [hfr.block (ob + 1) (by omega) (by omega)]; exact hcb
      clear hown hown1 hg1 hat hst hob heb hcb hea q0 q1 qf
      go_wp2_with fail
      refine bodyPost_ret (results_none rfl _ _ _) rfl ?_
      exact ⟨rfl, by rw [HR.out]; exact hst2, hfr⟩
  | succ n ih =>
    intro at_ hn ha set out w hst
    have hat : at_ < ess.length := by omega
    have HS : Hid (crossG (ess.drop at_) set out = if 64 < out.length then out else (ess[at_].drop 0).foldl (fun o s => crossG (ess.drop (at_ + 1)) (bits .or .i64 set s) o) out) := by unfold Hid; rw [List.drop_eq_getElem_cons hat]; rfl
    generalize crossG (ess.drop at_) set out = r at *
    obtain ⟨v, hob, hown⟩ := hst.o
    obtain ⟨a, c, heb, us, hul, hrs, hrd⟩ := hst.e
    have hcb := hst.c
    have hl := hst.len
    have hlv : ∃ ao co, v = .slice ao out.length co := by
      rcases hown.2 with ⟨rfl, h⟩ | ⟨g, cap, cur, rfl, _⟩
      · exact ⟨none, 0, by rw [h]⟩
      · exact ⟨_, _, rfl⟩
    obtain ⟨ao, co, rfl⟩ := hlv
    have q0 := blk_cell (l := [_]) hob 0 _ rfl
    have q1 := blk_cell (l := [_]) heb 0 _ rfl
    have hgs := blk_lt hob
    have hgs1 := blk_lt heb
    have hgs2 := blk_lt hcb
    by_cases h64 : 64 < out.length
    · have HR : Hid (r = out) := by unfold Hid; rw [HS.out, if_pos h64]
      clear ih hrs hrd
      go_enter Tryz.func94, Tryz.ntmps94
      go_wp2_with fail
      refine bodyPost_ret (results_none rfl _ _ _) rfl ?_
      exact ⟨rfl, by rw [HR.out]; exact hst, CrossFr.refl _ _⟩
    · have HR : Hid (r = (ess[at_].drop 0).foldl (fun o s => crossG (ess.drop (at_ + 1)) (bits .or .i64 set s) o) out) := by unfold Hid; rw [HS.out, if_neg h64]
      clear HS
      obtain ⟨_, _, _, hcm, -⟩ := id hrd
      have hem : ess.length ≤ 9223372036854775807 := by
        obtain ⟨_, cc, e, h1, h2, -⟩ := id hrd
        unfold maxLen at h2; cases e; omega
      obtain ⟨g, o, rfl, -, hgs3, hcell⟩ := Rd.at_ hrd (j := at_) (by omega)
      have hu : us[at_]? = some us[at_] := List.getElem?_eq_getElem (by omega)
      have hxc : w.cell? ⟨g, o + at_, none⟩ = some us[at_] := hcell at_ _ hu
      have hrow := hrs at_ _ _ hu (List.getElem?_eq_getElem hat)
      obtain ⟨ar, cr, h2, hrc, hrm, -⟩ := id hrow
      rw [h2] at hxc hrow
      have hrl : ess[at_].length ≤ 9223372036854775807 := by unfold maxLen at hrm; omega
      have hne : (((at_ : Nat) : Int) == ((ess.length : Nat) : Int)) = false := by simp; omega
      have hne2 : (at_ == ess.length) = false := by simp; omega
      clear hcell hu h2 hrs hrd hcm
      have IH := fun s o W h => ih (at_ + 1) (by omega) (by omega) (bits .or .i64 set s) o W h
      rw [show ((at_ + 1 : Nat) : Int) = (at_ : Int) + 1 by omega] at IH
      clear ih
      generalize ess.drop (at_ + 1) = rest at *
      generalize ess[at_] = row at *
      go_enter Tryz.func94, Tryz.ntmps94
      go_wp2_with fail
      go_loopw [25] (fun i wr => ∃ (k : Nat) (o' : List Int), k ≤ row.length ∧ i = .int .i64 k ∧ Hid (r = (row.drop k).foldl (fun o s => crossG rest (bits .or .i64 set s) o) o') ∧ CrossSt ob eb (ob + 1) ess o' wr ∧ CrossFr ob w wr) (fun i _ => row.length - (intOf i).toNat)
      case atStart => exact ⟨0, out, Nat.zero_le _, rfl, HR, hst, CrossFr.refl _ _⟩
      case round =>
        clear hst HR hob heb hcb hown q0 q1 hxc hgs hgs1 hgs2 hgs3
        obtain ⟨k, o', hk, rfl, HR, hst, hfr⟩ := hrel
        by_cases hlt : k < row.length
        · obtain ⟨g2, o2, rfl, -, hgs4, hcell⟩ := Rd.at_ (Rd.fr hrow hfr) (j := k) (by simpa using hlt)
          have hxc : wr.cell? ⟨g2, o2 + k, none⟩ = some (.int .i64 row[k]) := hcell k _ (by simp [hlt])
          have HR2 : Hid (r = (row.drop (k + 1)).foldl (fun o s => crossG rest (bits .or .i64 set s) o) (crossG rest (bits .or .i64 set row[k]) o')) := by
            unfold Hid; rw [HR.out, List.drop_eq_getElem_cons hlt]; rfl
          have HI := IH row[k] o' wr hst
          have q2 := blk_cell (l := [_]) hst.c 0 _ rfl
          have hgs5 := blk_lt hst.c
          clear hcell HR hrow IH
          generalize row[k] = x at *
          go_wp2_with fail
          refine HI.mono ?_
          clear HI
          rintro e w2 ⟨rfl, hst2, hfr2⟩
          have hfr3 := hfr.trans hfr2
          clear hst hfr hfr2 q2 hxc
          go_wp2_with fail
          go_roundw
          case rel => exact ⟨k + 1, _, by omega, by go_num, HR2, hst2, hfr3⟩
          case measure => simp [intOf]; omega
        · have HR2 : Hid (r = o') := by unfold Hid; rw [HR.out, List.drop_eq_nil_of_le (by omega)]; rfl
          clear HR IH hrow
          go_wp2_with fail
          go_end0
          exact ⟨rfl, by rw [HR2.out]; exact hst, hfr⟩
end Go.Proofs.YtoilgmdfbibniaaGreatDoor
