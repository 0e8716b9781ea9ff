/- PlanLeast's plain law: what is chosen is the least of what may answer. No program in sight. -/
import Derived.Test.YtoilgmdfbibniaaGreatDoorOffer
set_option linter.unusedSimpArgs false
set_option linter.unusedVariables false
namespace Go.Proofs.YtoilgmdfbibniaaGreatDoor
open Go Go.RowKit

theorem cmpVI_neg {x y : VI} (h : cmpVI x y < 0) : max x.rows 0 ≤ max y.rows 0 := by
  unfold cmpVI orF cmpF at h
  split at h <;> split at h <;> (try split at h) <;> (try split at h) <;> omega
theorem cmpVI_nonneg {x y : VI} (h : ¬ cmpVI x y < 0) : max y.rows 0 ≤ max x.rows 0 := by
  unfold cmpVI orF cmpF at h
  split at h <;> split at h <;> (try split at h) <;> (try split at h) <;> omega

/-- What the fold keeps: the found one is meant, and none that is meant has less. -/
def LeastInv (head need : Int) (l : List VI) (s : VI × Bool) : Prop :=
  (s.2 = false → ∀ y ∈ l, meantB head need y = false) ∧ (s.2 = true → s.1 ∈ l ∧ meantB head need s.1 = true ∧ ∀ y ∈ l, meantB head need y = true → max s.1.rows 0 ≤ max y.rows 0)
theorem least_step {head need : Int} {l : List VI} {s : VI × Bool} (h : LeastInv head need l s) (x : VI) : LeastInv head need (l ++ [x]) (leastStep head need s x) := by
  obtain ⟨h0, h1⟩ := h
  unfold leastStep
  cases hm : meantB head need x
  · rw [if_neg (by simp)]
    refine ⟨fun hs y hy => ?_, fun hs => ?_⟩
    · rcases List.mem_append.1 hy with hy | hy
      · exact h0 hs y hy
      · simp at hy; subst hy; exact hm
    · obtain ⟨ha, hb, hc⟩ := h1 hs
      refine ⟨List.mem_append.2 (.inl ha), hb, fun y hy hmy => ?_⟩
      rcases List.mem_append.1 hy with hy | hy
      · exact hc y hy hmy
      · simp at hy; subst hy; rw [hm] at hmy; cases hmy
  · cases hs : s.2
    · rw [if_pos (by simp)]
      refine ⟨fun h => by simp at h, fun _ => ⟨by simp, hm, fun y hy hmy => ?_⟩⟩
      rcases List.mem_append.1 hy with hy | hy
      · rw [h0 hs y hy] at hmy; cases hmy
      · simp at hy; subst hy; exact Int.le_refl _
    · obtain ⟨ha, hb, hc⟩ := h1 hs
      by_cases hlt : cmpVI x s.1 < 0
      · rw [if_pos (by simp [hlt])]
        refine ⟨fun h => (by simp at h), fun _ => ⟨(by simp), hm, fun y hy hmy => ?_⟩⟩
        have := cmpVI_neg hlt
        rcases List.mem_append.1 hy with hy | hy
        · have := hc y hy hmy; simp only; omega
        · simp at hy; subst hy; exact Int.le_refl _
      · rw [if_neg (by simp [hlt])]
        refine ⟨fun h => (by rw [hs] at h; cases h), fun _ => ⟨List.mem_append.2 (.inl ha), hb, fun y hy hmy => ?_⟩⟩
        have := cmpVI_nonneg hlt
        rcases List.mem_append.1 hy with hy | hy
        · exact hc y hy hmy
        · simp at hy; subst hy; exact this
theorem least_fold (head need : Int) : ∀ (r l : List VI) (s : VI × Bool), LeastInv head need l s → LeastInv head need (l ++ r) (r.foldl (leastStep head need) s)
  | [], l, s, h => by simpa using h
  | x :: r, l, s, h => by
    have := least_fold head need r (l ++ [x]) _ (least_step h x)
    rw [List.append_assoc] at this
    exact this
theorem least_inv (head need : Int) (l : List VI) : LeastInv head need l (leastF head need l) := by
  have := least_fold head need l [] (⟨0, 0, 0, 0, 0, 0⟩, false) ⟨fun _ y hy => by simp at hy, fun h => by simp at h⟩
  rw [List.nil_append] at this
  exact this

theorem cost_no {need head facts : Int} {l : List VI} (h : (leastF head need l).2 = false) : (chooseF need l head facts).cost = max facts 0 := by
  unfold chooseF
  rw [if_pos (.inl h)]
theorem cost_yes {need head facts : Int} {l : List VI} (h : (leastF head need l).2 = true) : (chooseF need l head facts).cost = min (max facts 0) (max (leastF head need l).1.rows 0) := by
  unfold chooseF
  by_cases hlt : max facts 0 < (leastF head need l).1.rows
  · rw [if_pos (.inr hlt)]
    show max facts 0 = _
    omega
  · rw [if_neg (by rw [h]; simpa using hlt)]
    show max (leastF head need l).1.rows 0 = _
    omega
/-- No view that may answer costs less. -/
theorem choose_least {need head facts : Int} {l : List VI} {x : VI} (hx : x ∈ l) (hm : meantB head need x = true) (h1 : x.rows < (chooseF need l head facts).cost) (h0 : 0 < (chooseF need l head facts).cost) : False := by
  obtain ⟨i0, i1⟩ := least_inv head need l
  cases hf : (leastF head need l).2
  · have := i0 hf x hx; rw [hm] at this; cases this
  · obtain ⟨-, -, hc⟩ := i1 hf
    have := hc x hx hm
    rw [cost_yes hf] at h1 h0
    omega
/-- One view more never makes it dearer. -/
theorem choose_more (need head facts : Int) (l : List VI) (m : VI) : (chooseF need (m :: l) head facts).cost ≤ (chooseF need l head facts).cost := by
  obtain ⟨i0, i1⟩ := least_inv head need l
  obtain ⟨j0, j1⟩ := least_inv head need (m :: l)
  cases hf : (leastF head need l).2
  · rw [cost_no hf]
    cases hf' : (leastF head need (m :: l)).2
    · rw [cost_no hf']; exact Int.le_refl _
    · rw [cost_yes hf']; omega
  · obtain ⟨ha, hb, hc⟩ := i1 hf
    cases hf' : (leastF head need (m :: l)).2
    · have := j0 hf' _ (List.mem_cons_of_mem _ ha); rw [hb] at this; cases this
    · obtain ⟨-, -, hc'⟩ := j1 hf'
      have := hc' _ (List.mem_cons_of_mem _ ha) hb
      rw [cost_yes hf, cost_yes hf']
      omega
/-- What is chosen, if it is a view, may answer. -/
theorem choose_covers (need head facts : Int) (l : List VI) : (chooseF need l head facts).base = true ∨ coversB (chooseF need l head facts).set need = true := by
  obtain ⟨-, i1⟩ := least_inv head need l
  unfold chooseF
  generalize leastF head need l = s at *
  obtain ⟨o, f⟩ := s
  split
  · exact .inl rfl
  · rename_i h
    simp at h
    obtain ⟨-, hb, -⟩ := i1 h.1
    simp [meantB] at hb
    exact .inr hb.2
theorem choose_none (need head facts : Int) : (chooseF need [] head facts).base = true := by
  unfold chooseF leastF
  simp

theorem law_loop {t : TT} {sets : List Int} {l : List VI} {head facts : Int} {x : VI} (hx : x ∈ l) (hn : (readsT t).2 = false) (hs : x.state = 2) (hq : x.seq = head) (hc : coversB x.set (needF t sets) = true)
    (h1 : x.rows < (ChooseF t sets l head facts).cost) (h0 : 0 < (ChooseF t sets l head facts).cost) : False := by
  unfold ChooseF at h1 h0
  rw [if_neg (by simp [hn])] at h1 h0
  exact choose_least hx (by simp [meantB, hs, hq, hc]) h1 h0
theorem law_more (t : TT) (sets : List Int) (l : List VI) (m : VI) (head facts : Int) : (ChooseF t sets (m :: l) head facts).cost ≤ (ChooseF t sets l head facts).cost := by
  unfold ChooseF
  split
  · exact Int.le_refl _
  · exact choose_more _ _ _ _ _
theorem law_base (t : TT) (sets : List Int) (l : List VI) (head facts : Int) (h : (readsT t).2 = true) : (ChooseF t sets l head facts).base = true := by
  unfold ChooseF
  rw [if_pos h]
  exact choose_none _ _ _
theorem law_covers (t : TT) (sets : List Int) (l : List VI) (head facts : Int) : (ChooseF t sets l head facts).base = true ∨ coversB (ChooseF t sets l head facts).set (needF t sets) = true := by
  unfold ChooseF
  exact choose_covers _ _ _ _
end Go.Proofs.YtoilgmdfbibniaaGreatDoor
