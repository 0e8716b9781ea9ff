/- A region that draws its order whose first operations (a call among them) can come in one order only, and whose next ones only read. Nothing of the program. -/
import Derived.Test.YtoilgmdfbibniaaGreatDoorBase
set_option linter.unusedSimpArgs false
set_option linter.unusedVariables false
namespace Go.Proofs.YtoilgmdfbibniaaGreatDoor
open Go Go.RowKit

/-- Q, but C where the head ends. -/
def HeadPost (C : Act → World → Prop) (Q : Exit → Act → World → Prop) : Exit → Act → World → Prop
  | .normal, a, w => C a w
  | .exit i, a, w => Q (.exit i) a w
  | .goto i, a, w => Q (.goto i) a w
  | .ret, a, w => Q .ret a w
  | .panic c, a, w => Q (.panic c) a w
  | .outgrown, a, w => Q .outgrown a w

section
variable {P : Program} {ops : Array Oper} {md : Region.Mode}

theorem wp_head {o : Oper} {a : Act} {w : World} {K : Act → World → Prop} {C : Act → World → Prop} {Q : Exit → Act → World → Prop} (hh : o.wp P a w K (HeadPost C Q)) : o.wp P a w K Q := by
  unfold Oper.wp at *
  generalize (execOp a.eval o).run P w = r at *
  cases r with
  | ok n w' =>
    cases n <;> simp only [Oper.upon] at hh ⊢ <;>
      first
        | exact hh
        | exact Calls.mono hh (fun e w'' he => by cases e <;> exact he)
  | halt h w' => cases h <;> exact hh

/-- 'wpStill' behind a wall: Lean does not lay it open by itself. -/
structure StillG (P : Program) (ops : Array Oper) (w : World) (Q : Act → Prop) (l : List Oper) (a : Act) : Prop where
  out : wpStill P ops w Q l a
theorem StillG.skip {Q : Act → Prop} {o : Oper} {rest : List Oper} {a : Act} {w : World} (hw : Region.wanted o (yielded ops a.tmps) = false) (h : StillG P ops w Q rest (a.put o.dst undef)) : StillG P ops w Q (o :: rest) a := by
  refine ⟨?_⟩
  unfold wpStill; rw [if_neg (by simp [hw])]; exact h.out
theorem StillG.want {Q : Act → Prop} {o : Oper} {rest : List Oper} {a : Act} {w : World} (hw : Region.wanted o (yielded ops a.tmps) = true) (h : ∀ K : Act → Prop, (∀ a, StillG P ops w Q rest a → K a) → o.still P a w K) : StillG P ops w Q (o :: rest) a := by
  refine ⟨?_⟩
  unfold wpStill; rw [if_pos hw]; exact h _ (fun _ h => h.out)
theorem StillG.nil {Q : Act → Prop} {a : Act} {w : World} (h : Q a) : StillG P ops w Q [] a := ⟨h⟩

theorem wpList_head_mono {C C' : Act → World → Prop} {Q : Exit → Act → World → Prop} (hC : ∀ a w, C a w → C' a w) : ∀ {l : List Oper} {a : Act} {w : World}, wpList P ops (HeadPost C Q) l a w → wpList P ops (HeadPost C' Q) l a w
  | [], _, _, h => hC _ _ h
  | o :: l, a, w, h => by
    unfold wpList at h ⊢
    split
    · rename_i hw
      rw [if_pos hw] at h
      rcases h with h | h
      · refine .inl (Oper.wp_mono (fun a' w' h' => wpList_head_mono hC h') ?_)
        have : o.wp P a w (wpList P ops (HeadPost C Q) l) (HeadPost C' Q) := by
          unfold Oper.wp at *
          generalize (execOp a.eval o).run P w = r at *
          cases r with
          | ok n w' =>
            cases n <;> simp only [Oper.upon] at h ⊢ <;>
              first
                | exact h
                | exact Calls.mono h (fun e w'' he => by cases e <;> exact he)
          | halt h' w' => cases h' <;> exact h
        exact this
      · exact .inr h
    · rename_i hw
      rw [if_neg hw] at h
      exact wpList_head_mono hC h

def lstF : Nat → Nat → Array Bool → Array Bool
  | 0, _, L => L
  | m + 1, k, L => lstF m (k + 1) (L.setIfInBounds k true)
def forcedB (md : Region.Mode) (ops : Array Oper) : Nat → Nat → Array Bool → Bool
  | 0, _, _ => true
  | m + 1, k, L => decide (Region.ready md ops L = [k]) && forcedB md ops m (k + 1) (L.setIfInBounds k true)

theorem wpAny_of_forced {g : Nat} {Q : Exit → Act → World → Prop} : ∀ (l : List Oper) (k : Nat) (L : Array Bool) (a : Act) (w : World), (∀ j, j < l.length → l[j]? = ops[k + j]?) → forcedB md ops l.length k L = true →
    wpList P ops (HeadPost (fun a w => wpAny P md ops Q g (lstF l.length k L) a w) Q) l a w → wpAny P md ops Q (l.length + g) L a w
  | [], _, _, _, _, _, _, h => by rw [List.length_nil, Nat.zero_add]; exact h
  | o :: l, k, L, a, w, hl, hB, h => by
    have h0 : ops[k]? = some o := by simpa using (hl 0 (by simp)).symm
    simp only [List.length_cons, forcedB, Bool.and_eq_true, decide_eq_true_eq] at hB
    rw [List.length_cons, show l.length + 1 + g = (l.length + g) + 1 by omega]
    refine ⟨fun h1 => (by rw [hB.1] at h1; cases h1), fun i hi => ?_⟩
    rw [hB.1] at hi
    have hik : i = k := by simpa using hi
    subst hik
    have ih := fun a' w' => wpAny_of_forced (g := g) (Q := Q) l (i + 1) (L.setIfInBounds i true) a' w' (fun j hj => by have := hl (j + 1) (by simp; omega); simpa [Nat.add_assoc, Nat.add_comm 1 j] using this) hB.2
    unfold wpOp
    simp only [h0]
    unfold wpList at h
    split
    · rename_i hw
      rw [if_pos hw] at h
      rcases h with h | h
      · exact .inl (Oper.wp_mono (fun a' w' h' => ih a' w' h') (wp_head h))
      · exact .inr h
    · rename_i hw
      rw [if_neg hw] at h
      exact ih _ _ h

theorem forced_inv {n : Nat} : ∀ (m k : Nat) (L : Array Bool), k + m ≤ n → HeadInv md ops n L → forcedB md ops m k L = true → HeadInv md ops n (lstF m k L)
  | 0, _, _, _, inv, _ => inv
  | m + 1, k, L, hk, inv, hB => by
    simp only [forcedB, Bool.and_eq_true, decide_eq_true_eq] at hB
    exact forced_inv m (k + 1) _ (by omega) (inv.set (by rw [hB.1]; simp) (by omega)) hB.2

def headStillB (md : Region.Mode) (ops : Array Oper) (m n : Nat) : Bool :=
  Region.noSelect ops && decide (m ≤ n) && decide (n < ops.size) && Region.sinkB md ops n && Region.chainB md ops n && forcedB md ops m 0 (Array.replicate ops.size false) && Region.lexHead md ops (ops.size - n) (n - m) m (lstF m 0 (Array.replicate ops.size false))

theorem head_still {id : Nat} {Q : Exit → Act → World → Prop} {a : Act} {w : World} {l : List Oper} (m n : Nat) (hm : P.follows .mixedOrders = true) (hB : headStillB .any l.toArray m n = true)
    (h0 : ∀ Q' : Exit → Act → World → Prop, (∀ a' w', StillG P l.toArray w' (fun a'' => wpList P l.toArray Q (l.drop n) a'' w') ((l.take n).drop m) a' → Q' .normal a' w') → (∀ c a' w', Q (.panic c) a' w' → Q' (.panic c) a' w') → wpList P l.toArray Q' (l.take m) a w.drew) : (Code.region id l.toArray true).wp P Q a w := by
  have h := h0 (HeadPost (fun a' w' => wpStill P l.toArray w' (fun a'' => wpList P l.toArray Q (l.drop n) a'' w') ((l.take n).drop m) a') Q) (fun _ _ h => h.out) (fun _ _ _ h => h)
  clear h0
  simp only [headStillB, Bool.and_eq_true, decide_eq_true_eq] at hB
  obtain ⟨⟨⟨⟨⟨⟨hsel, hmn⟩, hn⟩, hs⟩, hc⟩, hf⟩, hlex⟩ := hB
  have hn' : n < l.length := by simpa using hn
  have hml : (l.take m).length = m := by simp; omega
  have htl : ((l.take n).drop m).length = n - m := by simp; omega
  have hdl : (l.drop n).length = l.toArray.size - n := by simp
  have inv0 : HeadInv .any l.toArray n (Array.replicate l.toArray.size false) :=
    ⟨by simp, fun j oj _ hl => (by rw [getD_replicate_false] at hl; cases hl), fun t _ ht => getD_in (by simpa using ht) (getD_replicate_false _ _)⟩
  have inv1 := forced_inv (md := .any) m 0 _ (by omega) inv0 hf
  refine wp_region_any hm ?_
  have H := wpAny_of_forced (P := P) (md := .any) (ops := l.toArray) (g := (n - m) + (l.toArray.size - n)) (Q := Q) (l.take m) 0 (Array.replicate l.toArray.size false) a w.drew (fun j hj => by
    have hj' : j < m := by rw [hml] at hj; exact hj
    simp [hj']) (by rw [hml]; exact hf) ?_
  · rw [hml, show m + ((n - m) + (l.toArray.size - n)) = l.toArray.size by omega] at H
    exact H
  · rw [hml]
    refine wpList_head_mono (fun a' w' hst => ?_) h
    have H := wpAnyL_lex (P := P) (w := w') (md := .any) (g := l.toArray.size - n) hsel hs hc hn ((l.take n).drop m) m _ a' (fun j hj => by
      have hj' : j < n - m := by rw [htl] at hj; exact hj
      simp [List.getElem?_drop, show m + j < n by omega]) (by rw [htl]; omega) inv1 (by rw [htl]; exact hlex) hst
    have := wpAny_of_head (Q' := Q) (g := l.toArray.size - n) (fun listed a'' hL => by
      have := wpAny_of_seq (md := .any) (Q' := Q) (l.drop n) n listed a'' w' (fun j => by simp [List.getElem?_drop]) (by rw [hdl]; exact hL.1) hL.2
      rwa [hdl] at this) _ _ _ H
    rw [htl] at this
    exact this
end
end Go.Proofs.YtoilgmdfbibniaaGreatDoor
