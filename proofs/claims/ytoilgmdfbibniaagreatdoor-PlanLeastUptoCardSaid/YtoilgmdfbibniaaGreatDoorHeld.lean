/- A region that draws its order: loads that nobody disturbs, ahead of the last operations. Nothing of the program. -/
import Derived.Test.YtoilgmdfbibniaaGreatDoorBase
import Derived.OrdersHeld
set_option linter.unusedSimpArgs false
set_option linter.unusedVariables false
namespace Go.Proofs.YtoilgmdfbibniaaGreatDoor
open Go Go.RowKit

section
variable {P : Program} {ops : Array Oper} {md : Region.Mode}

/-! a region whose first n operations come in an open order, some of them loads that nobody of these disturbs; the rest in one order -/
variable {S : World → Prop} {Q : Exit → Act → World → Prop}
def wpAnyK (P : Program) (md : Region.Mode) (ops : Array Oper) (Q : Exit → Act → World → Prop) (S : World → Prop) (n : Nat) (E : Array Bool → Act → World → Prop) : Nat → Array Bool → Act → World → Prop
  | 0, L, a, w => E L a w
  | f + 1, L, a, w => Region.ready md ops L ≠ [] ∧ ∀ i ∈ Region.ready md ops L, i < n ∧ wpOp P ops Q i (fun a' w' => S w' ∧ wpAnyK P md ops Q S n E f (L.setIfInBounds i true) a' w') a w

theorem wpAny_of_K {n g : Nat} {E : Array Bool → Act → World → Prop} (hE : ∀ L a w, E L a w → wpAny P md ops Q g L a w) :
    ∀ (f : Nat) (L : Array Bool) (a : Act) (w : World), wpAnyK P md ops Q S n E f L a w → wpAny P md ops Q (f + g) L a w
  | 0, L, a, w, h => by rw [Nat.zero_add]; exact hE _ _ _ h
  | f + 1, L, a, w, h => by
    rw [show f + 1 + g = (f + g) + 1 by omega]
    exact ⟨fun h0 => absurd h0 h.1, fun i hi => wpOp_mono (fun a' w' h' => wpAny_of_K hE f _ a' w' h'.2) (h.2 i hi).2⟩

theorem wpAnyK_first {n i : Nat} {oi : Oper} {v : Value} {E : Array Bool → Act → World → Prop} (hi : ops[i]? = some oi) (hsel : ∀ (j : Nat) (o : Oper) cs b, ops[j]? = some o → o.op ≠ .select cs b)
    (hQ : ∀ c a w, Q (.panic c) (a.put oi.dst v) w → Q (.panic c) a w)
    (hs : Region.sinkB md ops n = true) (hc : Region.chainB md ops n = true) (hn : n < ops.size) (hin : i < n)
    (hdone : ∀ L a w, E L a w → ∀ j ∈ Region.ready md ops L, n ≤ j) :
    ∀ (f : Nat) (L : Array Bool) (a : Act) (w : World), HeadInv md ops n L →
      (∀ j oj, ops[j]? = some oj → j ≠ i → L.getD j true = false → (∀ e ∈ oj.after, Region.binds md e = true → e.on ≠ i) → oi.apart ops oj = true) →
      i ∈ Region.ready md ops L → YieldsIf P ops S oi v a → S w →
      wpAnyK P md ops Q S n E f (L.setIfInBounds i true) (a.put oi.dst v) w → wpAnyK P md ops Q S n E (f + 1) L a w := by
  intro f
  induction f with
  | zero =>
    intro L a w inv _ hr hy hS H
    have hun := (mem_ready.1 hr).1
    refine ⟨fun h => (by rw [h] at hr; cases hr), fun j hj => ?_⟩
    have hjn : j < n := by
      rcases Nat.lt_or_ge j n with h | h
      · exact h
      · exact absurd hj (tail_waits hs hc hn inv _ i rfl hin hun j h)
    refine ⟨hjn, ?_⟩
    by_cases hji : j = i
    · subst hji; exact hy.wpOp hi hS ⟨hS, H⟩
    · have := hdone _ _ _ H j (ready_mono hj hji)
      omega
  | succ f ih =>
    intro L a w inv hfree hr hy hS H
    have hun := (mem_ready.1 hr).1
    refine ⟨fun h => (by rw [h] at hr; cases hr), fun j hj => ?_⟩
    have hjn : j < n := by
      rcases Nat.lt_or_ge j n with h | h
      · exact h
      · exact absurd hj (tail_waits hs hc hn inv _ i rfl hin hun j h)
    refine ⟨hjn, ?_⟩
    by_cases hji : j = i
    · subst hji; exact hy.wpOp hi hS ⟨hS, H⟩
    · have h1 := (H.2 j (ready_mono hj hji)).2
      obtain ⟨hjun, oj, hoj, hall⟩ := mem_ready.1 hj
      have hnot : ∀ e ∈ oj.after, Region.binds md e = true → e.on ≠ i := fun e he hb heq => by
        have h1 := hall e he hb
        rw [heq, getD_both hun] at h1
        cases h1
      have h2 := wpOp_putIf hoj (hfree j oj hoj hji hjun hnot) (fun cs b => hsel i oi cs b hi) (fun cs b => hsel j oj cs b hoj) hQ hy h1
      have hfree' : ∀ k ok, ops[k]? = some ok → k ≠ i → (L.setIfInBounds j true).getD k true = false →
          (∀ e ∈ ok.after, Region.binds md e = true → e.on ≠ i) → oi.apart ops ok = true := fun k ok hk hki hun hno => by
        refine hfree k ok hk hki ?_ hno
        by_cases hjk : j = k
        · subst hjk; exact hjun
        · rw [getD_set_ne true hjk] at hun; exact hun
      refine wpOp_mono (fun a' w' h3 => ⟨h3.2.1, ih (L.setIfInBounds j true) a' w' (inv.set hj hjn) hfree' (ready_mono hr (Ne.symm hji)) h3.1 h3.2.1 ?_⟩) h2
      rw [Array.setIfInBounds_comm _ _ hji]
      exact h3.2.2

def headHeldB (md : Region.Mode) (ops : Array Oper) (n : Nat) : Bool :=
  Region.noSelect ops && decide (n < ops.size) && Region.sinkB md ops n && Region.chainB md ops n
/-- where the walk of such a region stands: f of the first n operations are left -/
structure KG (P : Program) (ops : Array Oper) (Q : Exit → Act → World → Prop) (S : World → Prop) (n : Nat) (l : List Oper) (f : Nat) (L : Array Bool) (a : Act) (w : World) : Prop where
  out : headHeldB .any ops n = true → HeadInv .any ops n L → wpAnyK P .any ops Q S n (fun L a w => Region.seqB .any ops (ops.size - n) n L = true ∧ wpList P ops Q l a w) f L a w
/-- a load, a copy, arithmetic: taken first -/
theorem KG.take {n f : Nat} {l : List Oper} {L : Array Bool} {a : Act} {w : World} (i : Nat) {oi : Oper} (v : Value) (hi : ops[i]? = some oi) (hin : i < n) (hf : Region.free .any ops L i = true) (hr : (Region.ready .any ops L).contains i = true)
    (hQ : ∀ c a w, Q (.panic c) (a.put oi.dst v) w → Q (.panic c) a w) (hS : S w) (hw : Region.wanted oi (yielded ops a.tmps) = true) (hy : ∀ w, S w → (execOp a.eval oi).run P w = .ok (.value v) w) (h : KG P ops Q S n l f (L.setIfInBounds i true) (a.put oi.dst v) w) : KG P ops Q S n l (f + 1) L a w := by
  refine ⟨fun hB inv => ?_⟩
  have hB' := hB
  simp only [headHeldB, Bool.and_eq_true, decide_eq_true_eq] at hB'
  obtain ⟨⟨⟨hsel, hn⟩, hs⟩, hc⟩ := hB'
  have hr' : i ∈ Region.ready .any ops L := by simpa using hr
  exact wpAnyK_first hi (Region.noSelect_spec hsel) hQ hs hc hn hin (fun L a w hL => seqB_ready hL.1) f L a w inv (Region.free_spec hi hf) hr' (.inl ⟨hw, hy⟩) hS (h.out hB (inv.set hr' hin))
/-- the only one that may come up now -/
theorem KG.one {n f : Nat} {l : List Oper} {L : Array Bool} {a : Act} {w : World} (i : Nat) {oi : Oper} (hi : ops[i]? = some oi) (hin : i < n) (hr : Region.ready .any ops L = [i]) (hw : Region.wanted oi (yielded ops a.tmps) = true)
    (h : ∀ K : Act → World → Prop, (∀ a' w', S w' → KG P ops Q S n l f (L.setIfInBounds i true) a' w' → K a' w') → oi.wp P a w K Q) : KG P ops Q S n l (f + 1) L a w := by
  refine ⟨fun hB inv => ⟨fun h0 => (by rw [hr] at h0; cases h0), fun j hj => ?_⟩⟩
  rw [hr] at hj
  have hji : j = i := by simpa using hj
  subst hji
  refine ⟨hin, ?_⟩
  have hmem : j ∈ Region.ready .any ops L := by rw [hr]; simp
  have h1 := h (fun a' w' => S w' ∧ wpAnyK P .any ops Q S n (fun L a w => Region.seqB .any ops (ops.size - n) n L = true ∧ wpList P ops Q l a w) f (L.setIfInBounds j true) a' w') (fun a' w' hS hk => ⟨hS, hk.out hB (inv.set hmem hin)⟩)
  unfold wpOp
  simp only [hi, hw, if_true]
  exact .inl h1
theorem KG.done {n : Nat} {l : List Oper} {L : Array Bool} {a : Act} {w : World} (hs : Region.seqB .any ops (ops.size - n) n L = true) (h : wpList P ops Q l a w) : KG P ops Q S n l 0 L a w := ⟨fun _ _ => ⟨hs, h⟩⟩
theorem head_held {id : Nat} {a : Act} {w : World} {l : List Oper} (n : Nat) (S : World → Prop) (hm : P.follows .mixedOrders = true) (hB : headHeldB .any l.toArray n = true)
    (h : KG P l.toArray Q S n (l.drop n) n (Array.replicate l.toArray.size false) a w.drew) : (Code.region id l.toArray true).wp P Q a w := by
  have hB' := hB
  simp only [headHeldB, Bool.and_eq_true, decide_eq_true_eq] at hB'
  obtain ⟨⟨⟨hsel, hn⟩, hs⟩, hc⟩ := hB'
  have hdl : (l.drop n).length = l.toArray.size - n := by simp
  have inv0 : HeadInv .any l.toArray n (Array.replicate l.toArray.size false) :=
    ⟨by simp, fun j oj _ hl => (by rw [getD_replicate_false] at hl; cases hl), fun t _ ht => getD_in (by simpa using ht) (getD_replicate_false _ _)⟩
  refine wp_region_any hm ?_
  have := wpAny_of_K (P := P) (md := .any) (ops := l.toArray) (Q := Q) (S := S) (g := l.toArray.size - n) (fun L a w hL => by
    have := wpAny_of_seq (md := .any) (Q' := Q) (l.drop n) n L a w (fun j => by simp [List.getElem?_drop]) (by rw [hdl]; exact hL.1) hL.2
    rwa [hdl] at this) n _ a w.drew (h.out hB inv0)
  rw [show n + (l.toArray.size - n) = l.toArray.size by omega] at this
  exact this
end
end Go.Proofs.YtoilgmdfbibniaaGreatDoor
