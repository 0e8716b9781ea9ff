/- parse: what a query must be: named, group. -/
import Derived.Test.YtoilgmdfbibniaaGreatDoorGrp
import Derived.Test.YtoilgmdfbibniaaGreatDoorName
set_option linter.unusedSimpArgs false
set_option linter.unusedVariables false
set_option maxRecDepth 20000
namespace Go.Proofs.YtoilgmdfbibniaaGreatDoor
open Go Go.RowKit

theorem IsName_all (s : ByteArray) (w : World) (hg : Glob w) : Calls Tryz.prog 72 #[.string s] w fun e w' => e = .returned (.bool (isNameB s)) ∧ Below w.heap.size w w' := by
  by_cases hs : s.size < 35184372088832
  · exact IsName_any s w hs hg
  · have h0 : ¬ s.size = 0 := by omega
    have h32 : 32 < s.size := by omega
    have he : s.toList.isEmpty = false := by cases h : s.toList.isEmpty; rfl; exact absurd ((toList_empty s).1 h) h0
    have HS : Hid (isNameB s = false) := by simp [isNameB, h0, h32, Hid]
    go_enter Tryz.func72, Tryz.ntmps72
    go_wp2_with fail
    go_ret
    exact ⟨by rw [HS.out]; rfl, Below.refl _ _⟩
theorem isNameB_size {s : ByteArray} (h : isNameB s = true) : s.size ≤ 32 := by
  unfold isNameB at h
  split at h
  · cases h
  · split at h
    · cases h
    · omega
theorem Glob.keepN {w w' : World} (h : Glob w) (hg : w.grownBy w' none) : Glob w' := h.keep hg (by simp)

theorem notName_parse (s : ByteArray) (w : World) (hg : Glob w) : Calls Tryz.prog 165 #[.string s] w fun e w' => e = .returned (.bool (!isNameB s)) ∧ w.grownBy w' none := by
  have H := IsName_all s w hg
  generalize isNameB s = b at *
  go_enter Tryz.func165, Tryz.ntmps165
  go_wp2_with fail
  refine H.mono ?_
  rintro e w' ⟨rfl, hb⟩
  go_wp2_with fail
  go_ret
  exact ⟨by cases b <;> rfl, gr_below hb _⟩
theorem notName_bind (s : ByteArray) (w : World) (hg : Glob w) : Calls Tryz.prog 71 #[.string s] w fun e w' => e = .returned (.bool (!isNameB s)) ∧ w.grownBy w' none := by
  have H := IsName_all s w hg
  generalize isNameB s = b at *
  go_enter Tryz.func71, Tryz.ntmps71
  go_wp2_with fail
  refine H.mono ?_
  rintro e w' ⟨rfl, hb⟩
  go_wp2_with fail
  go_ret
  exact ⟨by cases b <;> rfl, gr_below hb _⟩

def namedF (l : List ByteArray) (lo hi : Nat) : Bool := decide (lo ≤ l.length) && decide (l.length ≤ hi) && !(l.any fun s => !isNameB s)
set_option maxHeartbeats 1000000 in
theorem named_any {F : Nat → Prop} {v : Value} {l : List ByteArray} {w : World} (lo hi : Nat) (hlo : lo ≤ 100) (hhi : hi ≤ 100) (h : StrsR F w v l) (hG : Glob w) :
    Calls Tryz.prog 122 #[v, .int .i64 (lo : Int), .int .i64 (hi : Int)] w fun e w' => e = .returned (.bool (namedF l lo hi)) ∧ w.grownBy w' none := by
  have HC := ContainsFunc_S0 165 (fun args w => by kernel_rfl) (fun s => !isNameB s) h (fun W s hg _ => notName_parse s W (hG.keepN hg))
  have HS : Hid (namedF l lo hi = (decide (lo ≤ l.length) && decide (l.length ≤ hi) && !(l.any fun s => !isNameB s))) := rfl
  obtain ⟨a, c, rfl, hc, hm⟩ := h.slice
  generalize (l.any fun s => !isNameB s) = b at *
  generalize namedF l lo hi = r at *
  clear h
  unfold maxLen at hm
  by_cases h1 : lo ≤ l.length
  · by_cases h2 : l.length ≤ hi
    · have HR : Hid (r = !b) := by unfold Hid; rw [HS.out, decide_eq_true h1, decide_eq_true h2]; rfl
      clear HS
      generalize l.length = n at *
      go_enter Tryz.func122, Tryz.ntmps122
      go_wp2_with fail
      refine HC.mono ?_
      rintro e w2 ⟨rfl, hg⟩
      go_wp2_with fail
      go_ret
      exact ⟨by rw [HR.out]; cases b <;> rfl, hg⟩
    · have HR : Hid (r = false) := by unfold Hid; rw [HS.out, decide_eq_false h2]; simp
      clear HS HC
      generalize l.length = n at *
      go_enter Tryz.func122, Tryz.ntmps122
      go_wp2_with fail
      go_ret
      exact ⟨by rw [HR.out]; rfl, gr_refl _ _⟩
  · have HR : Hid (r = false) := by unfold Hid; rw [HS.out, decide_eq_false h1]; simp
    clear HS HC
    generalize l.length = n at *
    go_enter Tryz.func122, Tryz.ntmps122
    go_wp2_with fail
    go_ret
    exact ⟨by rw [HR.out]; rfl, gr_refl _ _⟩

theorem notNamed_any {F : Nat → Prop} {v : Value} {l : List ByteArray} {w : World} (h : StrsR F w v l) (hG : Glob w) :
    Calls Tryz.prog 123 #[v] w fun e w' => e = .returned (.bool (!namedF l 0 16)) ∧ w.grownBy w' none := by
  have H := named_any 0 16 (by omega) (by omega) h hG
  obtain ⟨a, c, rfl, hc, hm⟩ := h.slice
  clear h
  generalize namedF l 0 16 = b at *
  go_enter Tryz.func123, Tryz.ntmps123
  go_wp2_with fail
  refine H.mono ?_
  rintro e w' ⟨rfl, hb⟩
  go_wp2_with fail
  go_ret
  exact ⟨by cases b <;> rfl, hb⟩

def groupB (g : GroupS) : Bool :=
  if g.1 = 1 then decide (g.2.2.length = 0) && namedF g.2.1 1 1
  else if g.1 = 2 ∨ g.1 = 3 then decide (g.2.2.length = 0) && namedF g.2.1 1 16
  else if g.1 = 4 then decide (g.2.1.length = 0) && decide (0 < g.2.2.length) && decide (g.2.2.length ≤ 64) && !(g.2.2.any fun s => !namedF s 0 16)
  else false

set_option maxHeartbeats 2000000 in
theorem group_any {F : Nat → Prop} {vc vs : Value} {g : GroupS} {w : World} (hvc : StrsR F w vc g.2.1) (hvs : RowsR F w vs g.2.2) (hG : Glob w) :
    Calls Tryz.prog 75 #[.agg #[.int .i64 (g.1 : Int), vc, vs]] w fun e w' => e = .returned (.bool (groupB g)) ∧ w.grownBy w' none := by
  have HS : Hid (groupB g = if g.1 = 1 then decide (g.2.2.length = 0) && namedF g.2.1 1 1
    else if g.1 = 2 ∨ g.1 = 3 then decide (g.2.2.length = 0) && namedF g.2.1 1 16
    else if g.1 = 4 then decide (g.2.1.length = 0) && decide (0 < g.2.2.length) && decide (g.2.2.length ≤ 64) && !(g.2.2.any fun s => !namedF s 0 16)
    else false) := rfl
  generalize groupB g = r at *
  obtain ⟨k, cols, sets⟩ := g
  simp only at hvc hvs HS ⊢
  by_cases h1 : k = 1
  · subst h1
    have HN := fun W (hg : w.grownBy W none) => named_any 1 1 (by omega) (by omega) (hvc.keep hg (by simp)) (hG.keepN hg)
    have HE : Hid (r = (decide (sets.length = 0) && namedF cols 1 1)) := by unfold Hid; rw [HS.out]; rfl
    obtain ⟨ac1, cc1, rfl, hcc, hcm⟩ := hvc.slice
    obtain ⟨as1, cs1, rfl, hsc, hsm⟩ := hvs.slice
    generalize namedF cols 1 1 = b at *
    unfold maxLen at hcm hsm
    clear HS hvc hvs
    by_cases h0 : sets.length = 0
    · have HR : Hid (r = b) := by unfold Hid; rw [HE.out, decide_eq_true h0]; rfl
      clear HE
      generalize sets.length = n2 at *
      subst h0
      generalize cols.length = n1 at *
      go_enter Tryz.func75, Tryz.ntmps75
      go_wp2_with fail
      refine (HN _ (gr_alloc (gr_refl _ _) _)).mono ?_
      rintro e w' ⟨rfl, hb⟩
      go_wp2_with fail
      go_ret
      exact ⟨by rw [HR.out]; cases b <;> rfl, gr_trans (gr_alloc (gr_refl _ _) _) hb⟩
    · have HR : Hid (r = false) := by unfold Hid; rw [HE.out, decide_eq_false h0]; rfl
      have h0' : (((sets.length : Nat) : Int) == 0) = false := by simpa using h0
      clear HE HN h0
      generalize sets.length = n2 at *
      generalize cols.length = n1 at *
      go_enter Tryz.func75, Tryz.ntmps75
      go_wp2_with fail
      go_ret
      exact ⟨by rw [HR.out]; rfl, gr_alloc (gr_refl _ _) _⟩
  · by_cases h2 : k = 2
    · subst h2
      have HN := fun W (hg : w.grownBy W none) => named_any 1 16 (by omega) (by omega) (hvc.keep hg (by simp)) (hG.keepN hg)
      have HE : Hid (r = (decide (sets.length = 0) && namedF cols 1 16)) := by unfold Hid; rw [HS.out]; rfl
      obtain ⟨ac1, cc1, rfl, hcc, hcm⟩ := hvc.slice
      obtain ⟨as1, cs1, rfl, hsc, hsm⟩ := hvs.slice
      generalize namedF cols 1 16 = b at *
      unfold maxLen at hcm hsm
      clear HS hvc hvs
      by_cases h0 : sets.length = 0
      · have HR : Hid (r = b) := by unfold Hid; rw [HE.out, decide_eq_true h0]; rfl
        clear HE
        generalize sets.length = n2 at *
        subst h0
        generalize cols.length = n1 at *
        go_enter Tryz.func75, Tryz.ntmps75
        go_wp2_with fail
        refine (HN _ (gr_alloc (gr_refl _ _) _)).mono ?_
        rintro e w' ⟨rfl, hb⟩
        go_wp2_with fail
        go_ret
        exact ⟨by rw [HR.out]; cases b <;> rfl, gr_trans (gr_alloc (gr_refl _ _) _) hb⟩
      · have HR : Hid (r = false) := by unfold Hid; rw [HE.out, decide_eq_false h0]; rfl
        have h0' : (((sets.length : Nat) : Int) == 0) = false := by simpa using h0
        clear HE HN h0
        generalize sets.length = n2 at *
        generalize cols.length = n1 at *
        go_enter Tryz.func75, Tryz.ntmps75
        go_wp2_with fail
        go_ret
        exact ⟨by rw [HR.out]; rfl, gr_alloc (gr_refl _ _) _⟩
    · by_cases h3 : k = 3
      · subst h3
        have HN := fun W (hg : w.grownBy W none) => named_any 1 16 (by omega) (by omega) (hvc.keep hg (by simp)) (hG.keepN hg)
        have HE : Hid (r = (decide (sets.length = 0) && namedF cols 1 16)) := by unfold Hid; rw [HS.out]; rfl
        obtain ⟨ac1, cc1, rfl, hcc, hcm⟩ := hvc.slice
        obtain ⟨as1, cs1, rfl, hsc, hsm⟩ := hvs.slice
        generalize namedF cols 1 16 = b at *
        unfold maxLen at hcm hsm
        clear HS hvc hvs
        by_cases h0 : sets.length = 0
        · have HR : Hid (r = b) := by unfold Hid; rw [HE.out, decide_eq_true h0]; rfl
          clear HE
          generalize sets.length = n2 at *
          subst h0
          generalize cols.length = n1 at *
          go_enter Tryz.func75, Tryz.ntmps75
          go_wp2_with fail
          refine (HN _ (gr_alloc (gr_refl _ _) _)).mono ?_
          rintro e w' ⟨rfl, hb⟩
          go_wp2_with fail
          go_ret
          exact ⟨by rw [HR.out]; cases b <;> rfl, gr_trans (gr_alloc (gr_refl _ _) _) hb⟩
        · have HR : Hid (r = false) := by unfold Hid; rw [HE.out, decide_eq_false h0]; rfl
          have h0' : (((sets.length : Nat) : Int) == 0) = false := by simpa using h0
          clear HE HN h0
          generalize sets.length = n2 at *
          generalize cols.length = n1 at *
          go_enter Tryz.func75, Tryz.ntmps75
          go_wp2_with fail
          go_ret
          exact ⟨by rw [HR.out]; rfl, gr_alloc (gr_refl _ _) _⟩
      · by_cases h4 : k = 4
        · subst h4
          have HE : Hid (r = (decide (cols.length = 0) && decide (0 < sets.length) && decide (sets.length ≤ 64) && !(sets.any fun s => !namedF s 0 16))) := by unfold Hid; rw [HS.out]; rfl
          have HN := fun W (hg : w.grownBy W none) => ContainsFunc_R0 123 (fun args w => by kernel_rfl) (fun s => !namedF s 0 16) (hvs.keep hg (by simp)) (fun W2 a n c s hg2 _ hs => notNamed_any hs (hG.keepN (gr_trans hg hg2)))
          obtain ⟨ac1, cc1, rfl, hcc, hcm⟩ := hvc.slice
          obtain ⟨as1, cs1, rfl, hsc, hsm⟩ := hvs.slice
          generalize (sets.any fun s => !namedF s 0 16) = b at *
          unfold maxLen at hcm hsm
          clear HS hvc hvs h1 h2 h3
          by_cases h0 : cols.length = 0
          · by_cases h5 : 0 < sets.length
            · by_cases h6 : sets.length ≤ 64
              · have HR : Hid (r = !b) := by unfold Hid; rw [HE.out, decide_eq_true h0, decide_eq_true h5, decide_eq_true h6]; rfl
                clear HE
                generalize sets.length = n2 at *
                generalize cols.length = n1 at *
                subst h0
                go_enter Tryz.func75, Tryz.ntmps75
                go_wp2_with fail
                refine (HN _ (gr_alloc (gr_refl _ _) _)).mono ?_
                rintro e w' ⟨rfl, hb⟩
                go_wp2_with fail
                go_ret
                exact ⟨by rw [HR.out]; cases b <;> rfl, gr_trans (gr_alloc (gr_refl _ _) _) hb⟩
              · have HR : Hid (r = false) := by unfold Hid; rw [HE.out, decide_eq_false h6]; simp
                clear HE HN
                generalize sets.length = n2 at *
                generalize cols.length = n1 at *
                subst h0
                go_enter Tryz.func75, Tryz.ntmps75
                go_wp2_with fail
                go_ret
                exact ⟨by rw [HR.out]; rfl, gr_alloc (gr_refl _ _) _⟩
            · have HR : Hid (r = false) := by unfold Hid; rw [HE.out, decide_eq_false h5]; simp
              clear HE HN
              generalize sets.length = n2 at *
              generalize cols.length = n1 at *
              subst h0
              go_enter Tryz.func75, Tryz.ntmps75
              go_wp2_with fail
              go_ret
              exact ⟨by rw [HR.out]; rfl, gr_alloc (gr_refl _ _) _⟩
          · have HR : Hid (r = false) := by unfold Hid; rw [HE.out, decide_eq_false h0]; simp
            have h0' : (((cols.length : Nat) : Int) == 0) = false := by simpa using h0
            clear HE HN h0
            generalize sets.length = n2 at *
            generalize cols.length = n1 at *
            go_enter Tryz.func75, Tryz.ntmps75
            go_wp2_with fail
            go_ret
            exact ⟨by rw [HR.out]; rfl, gr_alloc (gr_refl _ _) _⟩
        · have HR : Hid (r = false) := by unfold Hid; rw [HS.out, if_neg h1, if_neg (by omega), if_neg h4]
          have e1 : ((k : Int) == 1) = false := by simp; omega
          have e2 : ((k : Int) == 2) = false := by simp; omega
          have e3 : ((k : Int) == 3) = false := by simp; omega
          have e4 : ((k : Int) == 4) = false := by simp; omega
          obtain ⟨ac1, cc1, rfl, hcc, hcm⟩ := hvc.slice
          obtain ⟨as1, cs1, rfl, hsc, hsm⟩ := hvs.slice
          clear HS h1 h2 h3 h4 hvc hvs
          go_enter Tryz.func75, Tryz.ntmps75
          go_wp2_with fail
          go_ret
          exact ⟨by rw [HR.out]; rfl, gr_alloc (gr_refl _ _) _⟩

theorem notGroup_any {F : Nat → Prop} {vc vs : Value} {g : GroupS} {w : World} (hvc : StrsR F w vc g.2.1) (hvs : RowsR F w vs g.2.2) (hG : Glob w) :
    Calls Tryz.prog 74 #[.agg #[.int .i64 (g.1 : Int), vc, vs]] w fun e w' => e = .returned (.bool (!groupB g)) ∧ w.grownBy w' none := by
  have H := fun W (hg : w.grownBy W none) => group_any (g := g) (hvc.keep hg (by simp)) (hvs.keep hg (by simp)) (hG.keepN hg)
  obtain ⟨ac1, cc1, rfl, hcc, hcm⟩ := hvc.slice
  obtain ⟨as1, cs1, rfl, hsc, hsm⟩ := hvs.slice
  generalize groupB g = b at *
  clear hvc hvs
  go_enter Tryz.func74, Tryz.ntmps74
  go_wp2_with fail
  refine (H _ (gr_alloc (gr_refl _ _) _)).mono ?_
  rintro e w' ⟨rfl, hb⟩
  go_wp2_with fail
  go_ret
  exact ⟨by cases b <;> rfl, gr_trans (gr_alloc (gr_refl _ _) _) hb⟩
end Go.Proofs.YtoilgmdfbibniaaGreatDoor
