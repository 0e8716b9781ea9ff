/- Plain lemmas on worlds: readable rows, what is kept. Nothing of the program. -/
import Derived.Test.YtoilgmdfbibniaaGreatDoorProg
import Derived.WalkKit
import Derived.WalkSpells
import Derived.WalkLawsBesides
import Derived.BigQuiet
import Derived.Deep.QuietTactic
import Derived.Deep.Draws
import Derived.StillTailTactics
import Derived.Deep.RegionHeld3
import Derived.Lib.Hide
import Derived.Laws.OwnMore
import Derived.Laws.MakeOwn
import Derived.Maps.AppendAt
import Derived.Lib.MinMax
import Derived.Laws.Tables
import Derived.Deep.WholeRow
import Derived.Lib.IndexBytes
import Derived.Laws.EntriesVeiled
set_option linter.unusedSimpArgs false
set_option linter.unusedVariables false
namespace Go.Proofs.YtoilgmdfbibniaaGreatDoor
open Go Go.RowKit

/-- A slice value of n elements whose first cells are cs; its block is one of F. -/
def Rd (F : Nat → Prop) (w : World) (v : Value) (n : Nat) (cs : List Value) : Prop :=
  ∃ a c, v = .slice a n c ∧ n ≤ c ∧ c ≤ maxLen ∧ (cs = [] ∨ ∃ g o, a = some ⟨g, o, none⟩ ∧ F g ∧ ∀ j u, cs[j]? = some u → w.cell? ⟨g, o + j, none⟩ = some u)

theorem Rd.keep {F : Nat → Prop} {w w' : World} {v : Value} {n : Nat} {cs : List Value} {r : Option Nat} (h : Rd F w v n cs) (hg : w.grownBy w' r) (hF : ∀ k, F k → some k ≠ r) : Rd F w' v n cs := by
  obtain ⟨a, c, hv, hn, hm, h⟩ := h
  refine ⟨a, c, hv, hn, hm, ?_⟩
  rcases h with h | ⟨g, o, ha, hf, h⟩
  · exact .inl h
  · exact .inr ⟨g, o, ha, hf, fun j u hj => hg.cell (h j u hj) (hF g hf)⟩

theorem Rd.mono {F G : Nat → Prop} {w : World} {v : Value} {n : Nat} {cs : List Value} (h : Rd F w v n cs) (hFG : ∀ k, F k → G k) : Rd G w v n cs := by
  obtain ⟨a, c, hv, hn, hm, h⟩ := h
  refine ⟨a, c, hv, hn, hm, ?_⟩
  rcases h with h | ⟨g, o, ha, hf, h⟩
  · exact .inl h
  · exact .inr ⟨g, o, ha, hFG g hf, h⟩

theorem Rd.nil (F : Nat → Prop) (w : World) : Rd F w (.slice none 0 0) 0 [] := ⟨none, 0, rfl, Nat.le_refl _, Nat.zero_le _, .inl rfl⟩

/-- What is at place j. -/
theorem Rd.at_ {F : Nat → Prop} {w : World} {a : Option Addr} {n c m : Nat} {cs : List Value} (h : Rd F w (.slice a n c) m cs) {j : Nat} (hj : j < cs.length) :
    ∃ g o, a = some ⟨g, o, none⟩ ∧ F g ∧ g < w.heap.size ∧ ∀ j u, cs[j]? = some u → w.cell? ⟨g, o + j, none⟩ = some u := by
  obtain ⟨a', c', hv, _, _, h⟩ := h
  cases hv
  rcases h with rfl | ⟨g, o, ha, hf, h⟩
  · simp at hj
  · exact ⟨g, o, ha, hf, World.block_lt_of_cell? w _ (h j _ (List.getElem?_eq_getElem hj)), h⟩

theorem Rd.own {w : World} {base : Nat} {e : TypeId} {size n : Nat} {v : Value} {xs : List Value} (h : w.ownsRow base e size v n xs) : Rd (base ≤ ·) w v n xs := by
  rcases h.2 with ⟨rfl, rfl⟩ | ⟨g, cap, cur, rfl, hb, hh, hn, hm, hs, ht⟩
  · have : xs = [] := List.eq_nil_of_length_eq_zero (by simpa using h.1)
    subst this
    exact Rd.nil _ _
  · refine ⟨_, cap, rfl, hn, hm, .inr ⟨g, 0, rfl, hb, fun j u hj => ?_⟩⟩
    have hc := h.cells (g := g) rfl j u hj
    have ha : (⟨g, 0, none⟩ : Addr).add j = ⟨g, 0 + j, none⟩ := by unfold Addr.add; split <;> simp_all
    rwa [ha] at hc

/-- A new row. -/
theorem Rd.lit (w : World) (ys : List Value) (e : TypeId) (n : Nat) (hn : n ≤ maxLen) : Rd (w.heap.size ≤ ·) (w.alloc (.cells ys.toArray e)) (.slice (some ⟨w.heap.size, 0, none⟩) n n) n ys := by
  refine ⟨_, n, rfl, Nat.le_refl _, hn, .inr ⟨w.heap.size, 0, rfl, Nat.le_refl _, fun j u hj => ?_⟩⟩
  rw [cell_of_row (w.alloc (.cells ys.toArray e)) w.heap.size (0 + j) ys.toArray e (0, 0) (heap_alloc_new w _)]
  simpa using hj

/-! what is kept -/
theorem gr_refl (w : World) (r : Option Nat) : w.grownBy w r := ⟨rfl, rfl, rfl, Nat.le_refl _, fun _ _ _ => rfl⟩
theorem gr_drew {w w' : World} {r : Option Nat} (h : w.grownBy w' r) : w.grownBy w'.drew r := ⟨h.os, h.tape, h.output, h.size, h.block⟩
theorem gr_drewN {w w' : World} {r : Option Nat} (h : w.grownBy w' r) (n : Nat) : w.grownBy (w'.drewN n) r := ⟨h.os, h.tape, h.output, h.size, h.block⟩
theorem gr_trans {w w1 w2 : World} {r : Option Nat} (h : w.grownBy w1 r) (k : w1.grownBy w2 r) : w.grownBy w2 r :=
  ⟨k.os.trans h.os, k.tape.trans h.tape, k.output.trans h.output, Nat.le_trans h.size k.size, fun i hi hr => (k.block i (Nat.lt_of_lt_of_le hi h.size) hr).trans (h.block i hi hr)⟩
/-- the second step may write another row, one that is new -/
theorem gr_trans' {w w1 w2 : World} {r s : Option Nat} (h : w.grownBy w1 r) (k : w1.grownBy w2 s) (hs : ∀ b, s = some b → w.heap.size ≤ b) : w.grownBy w2 r :=
  ⟨k.os.trans h.os, k.tape.trans h.tape, k.output.trans h.output, Nat.le_trans h.size k.size, fun i hi hr => (k.block i (Nat.lt_of_lt_of_le hi h.size) (fun e => by have := hs i e.symm; omega)).trans (h.block i hi hr)⟩
theorem gr_alloc {w w' : World} {r : Option Nat} (h : w.grownBy w' r) (o : Obj) : w.grownBy (w'.alloc o) r := gr_trans h (World.grownBy_alloc w' o r)
theorem gr_set {w w' : World} {r : Option Nat} (h : w.grownBy w' r) {p : Addr} (hp : w.heap.size ≤ p.block) (u : Value) : w.grownBy (w'.setCell p u) r :=
  ⟨h.os, h.tape, h.output, by have := h.size; simpa [World.setCell] using this, fun k hk hr => (Below.heap_setCell w' p u k (by omega)).trans (h.block k hk hr)⟩
theorem gr_setR {w w' : World} {r : Nat} (h : w.grownBy w' (some r)) {p : Addr} (hp : p.block = r) (u : Value) : w.grownBy (w'.setCell p u) (some r) :=
  ⟨h.os, h.tape, h.output, by have := h.size; simpa [World.setCell] using this, fun k hk hr => (Below.heap_setCell w' p u k (by rintro rfl; exact hr (by rw [hp]))).trans (h.block k hk hr)⟩
theorem gr_some {w w' : World} (h : w.grownBy w' none) (r : Option Nat) : w.grownBy w' r := ⟨h.os, h.tape, h.output, h.size, fun k hk _ => h.block k hk (by simp)⟩
theorem gr_below {w w' : World} (h : Below w.heap.size w w') (r : Option Nat) : w.grownBy w' r := ⟨h.os, h.tape, h.output, h.size, fun k hk _ => h.block k hk⟩
theorem below_gr {w w' : World} (h : w.grownBy w' none) : Below w.heap.size w w' := ⟨h.os, h.tape, h.output, h.size, fun k hk => h.block k hk (by simp)⟩
theorem gr_cell {w w' : World} {r : Option Nat} (h : w.grownBy w' r) {g o : Nat} {v : Value} (hc : w.cell? ⟨g, o, none⟩ = some v) (hne : some g ≠ r) : w'.cell? ⟨g, o, none⟩ = some v := h.cell hc hne
/-- a new row that is written is none of the old ones -/
theorem gr_new {w w' : World} {r : Option Nat} (h : w.grownBy w' r) (hr : ∀ b, r = some b → w.heap.size ≤ b) : w.grownBy w' none :=
  ⟨h.os, h.tape, h.output, h.size, fun k hk _ => h.block k hk (fun e => by have := hr k e.symm; omega)⟩

/-- A region that draws its order: what stands ahead of operation n only reads, the rest stands in one order. -/
theorem still_tail {P : Program} {id : Nat} {Q : Exit → Act → World → Prop} {a : Act} {w : World} {l : List Oper} (n : Nat) (hm : P.follows .mixedOrders = true) (hB : Region.lexTailB .any l.toArray n = true)
    (h : wpStill P l.toArray w.drew (fun a' => wpList P l.toArray Q (l.drop n) a' w.drew) (l.take n) a) : (Code.region id l.toArray true).wp P Q a w :=
  wp_region_still_tail n hm hB h

theorem cell_set {w : World} {g o : Nat} {u : Value} (v : Value) (h : w.cell? ⟨g, o, none⟩ = some u) : (w.setCell ⟨g, o, none⟩ v).cell? ⟨g, o, none⟩ = some v := by
  simp only [World.cell?, World.setCell, Array.getElem?_modify] at h ⊢
  cases hb : w.heap[g]? with
  | none => simp [hb] at h
  | some x =>
    cases x with
    | cells c e fr =>
      simp [hb] at h
      have hlt : o < c.size := (Array.getElem?_eq_some_iff.1 h).1
      simp [hlt]
    | _ => simp [hb] at h
theorem cell_set_ne {w : World} {g o g' o' : Nat} {u : Value} (v : Value) (h : w.cell? ⟨g, o, none⟩ = some u) (hne : g ≠ g' ∨ o ≠ o') : (w.setCell ⟨g', o', none⟩ v).cell? ⟨g, o, none⟩ = some u := by
  simp only [World.cell?, World.setCell, Array.getElem?_modify] at h ⊢
  by_cases e : g' = g
  · subst e
    have ho : o ≠ o' := by rcases hne with h | h; exact absurd rfl h; exact h
    cases hb : w.heap[g']? with
    | none => simp [hb] at h
    | some x =>
      cases x with
      | cells c e fr =>
        simp [hb] at h
        simpa [Ne.symm ho] using h
      | _ => simp [hb] at h
  · simpa [e] using h

/-! blocks known whole -/
theorem heap_new (w : World) (o : Obj) (n : Nat) (hn : n = w.heap.size) : (w.alloc o).heap[n]? = some o := by subst hn; exact heap_alloc_new w o
theorem heap_old (w : World) (o : Obj) (n : Nat) (x : Obj) (h : w.heap[n]? = some x) : (w.alloc o).heap[n]? = some x := by
  have := (Array.getElem?_eq_some_iff.1 h).1
  rw [Below.heap_alloc w o n this]; exact h
theorem blk_lt {w : World} {b : Nat} {x : Obj} (h : w.heap[b]? = some x) : b < w.heap.size := (Array.getElem?_eq_some_iff.1 h).1
theorem blk_cell {w : World} {b : Nat} {l : List Value} {e : TypeId} (h : w.heap[b]? = some (.cells l.toArray e (0, 0))) (j : Nat) (v : Value) (hj : l[j]? = some v) : w.cell? ⟨b, j, none⟩ = some v := by
  rw [cell_of_row w b j l.toArray e (0, 0) h]; simpa using hj
theorem blk_free {w : World} {b : Nat} {l : Array Value} {e : TypeId} (h : w.heap[b]? = some (.cells l e (0, 0))) (j : Nat) : w.frozen? ⟨b, j, none⟩ = false := by
  simp [World.frozen?, h]
theorem blk_set {w : World} {b : Nat} {c : Array Value} {e : TypeId} {fr : Nat × Nat} (h : w.heap[b]? = some (.cells c e fr)) (i : Nat) (v : Value) : (w.setCell ⟨b, i, none⟩ v).heap[b]? = some (.cells (c.setIfInBounds i v) e fr) := by
  simp [World.setCell, Array.getElem?_modify, h]
theorem blk_set_ne {w : World} {b b' : Nat} {x : Obj} (h : w.heap[b]? = some x) (hne : b ≠ b') (i : Nat) (v : Value) : (w.setCell ⟨b', i, none⟩ v).heap[b]? = some x := by
  rw [Below.heap_setCell _ _ _ _ hne]; exact h
theorem size_set (w : World) (a : Addr) (v : Value) : (w.setCell a v).heap.size = w.heap.size := by simp [World.setCell]
theorem gr_blk {w w' : World} {r : Option Nat} (h : w.grownBy w' r) {b : Nat} {x : Obj} (hb : w.heap[b]? = some x) (hne : some b ≠ r) : w'.heap[b]? = some x := by
  rw [h.block b (blk_lt hb) hne]; exact hb

theorem pw_cell {w w1 : World} (h : Below w.heap.size w w1) {a : Addr} {v : Value} (hc : w.cell? a = some v) : w1.cell? a = some v := (h.cell (World.block_lt_of_cell? w a hc)).trans hc

/-! make and append on rows of the call's own -/
section
variable {P : Program} {ops : Array Oper} {rest : List Oper} {o : Oper} {a : Act} {Q : Exit → Act → World → Prop} {w W : World}

/-- a whole struct or array into the newest block -/
theorem store_new (hgd : o.guard = none) (ty : TypeId) (x y : Operand) (ho : o.op = .store ty x y) (cells old : Array Value) (t : TypeId) (hx : a.eval x = .pointer (some ⟨W.heap.size, 0, none⟩)) (hy : a.eval y = .agg cells)
    (hi : (P.info? ty).map (·.size) = some cells.size) (hold : old.size = cells.size) (h1 : cells.toList.all (·.oneCell') = true)
    (h : wpList P ops Q rest (a.put o.dst undef) (W.alloc (.cells cells t))) : wpList P ops Q (o :: rest) a (W.alloc (.cells old t)) := by
  refine wpList_store_row hgd ty x y ho W.heap.size cells hx hy t old (heap_alloc_new W _) hi hold (by simpa using h1) ?_
  rw [World.setRow_alloc_new]
  exact h

/-- 'make([]T, 0, c)' -/
theorem mk0 (hgd : o.guard = none) (l c : Operand) (t : TypeId) (hop : o.op = Op.makeSlice t l c) (base : Nat) (e : TypeId) (z : Value) (size bytes : Nat)
    (ht : P.underlying t = some (.slice e)) (hinfo : (P.info? e).map (fun i => (i.zero, i.size, i.bytes)) = some (some z, size, bytes))
    (kl kc : IntKind) (C : Int) (hl : a.eval l = .int kl 0) (hc : a.eval c = .int kc C) (h0 : 0 ≤ C) (hb : C * bytes ≤ 281474976710656) (hm : C ≤ 9223372036854775807) (hbase : base ≤ w.heap.size)
    (hK : ∀ w', w'.ownsRow base e size (.slice (some ⟨w.heap.size, 0, none⟩) 0 C.toNat) 0 [] → w.grownBy w' none → wpList P ops Q rest (a.put o.dst (.slice (some ⟨w.heap.size, 0, none⟩) 0 C.toNat)) w') :
    wpList P ops Q (o :: rest) a w := by
  obtain ⟨i, hi, hz, hs, hb'⟩ := info_parts hinfo
  obtain ⟨n, rfl⟩ := Int.eq_ofNat_of_zero_le h0
  simp only [Int.toNat_natCast] at hK
  refine wpList_make_own w hgd l c t hop base e i z size ht hi hz hs kl kc _ n hl hc rfl ?_ (by unfold maxLen; omega) hbase hK
  rw [hb', Nat.mul_comm]
  have : ((n * bytes : Nat) : Int) ≤ 281474976710656 := by rw [Int.natCast_mul]; exact hb
  omega

/-- 'append(v, y)' of one element, which lies in the newest block -/
theorem app1 (hgd : o.guard = none) (s x : Operand) (t e : TypeId) (ho : o.op = .call { callee := .builtin .append, args := #[s, x], argTypes := #[t, t] })
    (ht : P.underlying t = some (.slice e)) (z : Value) (size bytes : Nat) (hinfo : (P.info? e).map (fun i => (i.zero, i.size, i.bytes)) = some (some z, size, bytes)) (hzs : z.cells.size = size) (hsz : 0 < size)
    {base : Nat} {v : Value} {n : Nat} {xs : List Value} (hown : W.ownsRow base e size v n xs) (ys : List Value) (hs : a.eval s = v) (hx : a.eval x = .slice (some ⟨W.heap.size, 0, none⟩) 1 1) (hy : ys.length = size) (h1 : ∀ u ∈ ys, u.oneCell' = true)
    (hbase : base ≤ W.heap.size) (hl : (n + 1) * bytes ≤ 140737488355328) (h63 : n + 1 ≤ maxLen)
    (h : ∀ v1 w1, w1.ownsRow base e size v1 (n + 1) (xs ++ ys) → W.grownBy w1 v.ownBlock → (v1.ownBlock = v.ownBlock ∨ ∃ b, v1.ownBlock = some b ∧ W.heap.size ≤ b) → v1 ≠ .slice none 0 0 → wpList P ops Q rest (a.put o.dst v1) w1) :
    wpList P ops Q (o :: rest) a (W.alloc (.cells ys.toArray e)) := by
  obtain ⟨i, hi, hz, hsi, hb⟩ := info_parts hinfo
  refine wpList_append_own_at (W.alloc (.cells ys.toArray e)) hgd s x t ho base e i z size bytes ht hi hz hsi hb hzs hsz v n xs hs (hown.alloc _) ⟨W.heap.size, 0, none⟩ 1 1 ys hx (by simpa using hy)
    (fun j u hj => ?_) h1 h63 hl (by simp; omega) ?_
  · have e1 : (⟨W.heap.size, 0, none⟩ : Addr).add j = ⟨W.heap.size, j, none⟩ := by unfold Addr.add; split <;> simp_all
    rw [e1, cell_of_row (W.alloc (.cells ys.toArray e)) W.heap.size j ys.toArray e (0, 0) (heap_alloc_new W _)]
    simpa using hj
  · intro v1 w1 hown1 hg hnil hat
    refine h v1 w1 hown1 (gr_trans (World.grownBy_alloc W _ _) hg) ?_ (fun hv => by simpa using hnil.1 hv)
    rcases hat with hat | hat
    · exact .inl hat
    · exact .inr ⟨_, hat, by simp⟩

/-- 'append(v, x...)' of a row that can be read -/
theorem appN (hgd : o.guard = none) (s x : Operand) (t e : TypeId) (ho : o.op = .call { callee := .builtin .append, args := #[s, x], argTypes := #[t, t] })
    (ht : P.underlying t = some (.slice e)) (z : Value) (size bytes : Nat) (hinfo : (P.info? e).map (fun i => (i.zero, i.size, i.bytes)) = some (some z, size, bytes)) (hzs : z.cells.size = size) (hsz : 0 < size)
    {base : Nat} {v : Value} {n : Nat} {xs ys : List Value} {F : Nat → Prop} {y : Value} {m : Nat} (hown : W.ownsRow base e size v n xs) (hr : Rd F W y m ys) (hs : a.eval s = v) (hx : a.eval x = y) (hy : ys.length = m * size) (h1 : ∀ u ∈ ys, u.oneCell' = true)
    (hbase : base ≤ W.heap.size) (hl : (n + m) * bytes ≤ 140737488355328) (h63 : n + m ≤ maxLen)
    (h : ∀ v1 w1, w1.ownsRow base e size v1 (n + m) (xs ++ ys) → W.grownBy w1 v.ownBlock → (v1.ownBlock = v.ownBlock ∨ ∃ b, v1.ownBlock = some b ∧ W.heap.size ≤ b) → (v1 = .slice none 0 0 ↔ v = .slice none 0 0 ∧ m = 0) → wpList P ops Q rest (a.put o.dst v1) w1) :
    wpList P ops Q (o :: rest) a W := by
  obtain ⟨i, hi, hz, hsi, hb⟩ := info_parts hinfo
  obtain ⟨ad, c, rfl, hmc, hcm, hc⟩ := hr
  by_cases hm : m = 0
  · subst hm
    have hys : ys = [] := List.eq_nil_of_length_eq_zero (by simpa using hy)
    subst hys
    have hrun : (Builtin.append_ #[t, t] o.type #[v, .slice ad 0 c]).run P W = .ok v W := by
      rcases hown.2 with ⟨rfl, rfl⟩ | ⟨g, cap, cur, rfl, hbg, hg, hnc, hcm', hcs, htake⟩
      · cases ad <;> simp [Builtin.append_, run_underlying ht, sizeOf, typeInfo, hi, Builtin.lenOf, Builtin.firstCells, loadCells, loadCellsFrom]
      · cases ad <;> simp [Builtin.append_, run_underlying ht, sizeOf, typeInfo, hi, Builtin.lenOf, Builtin.firstCells, loadCells, loadCellsFrom, storeCells, hnc]
    refine wpList_plain hgd fun K hK => ?_
    unfold Oper.wp execOp
    simp only [ho, resolve, invoke, builtin, Sem.run_bind, Sem.run_pure, Result.andThen_ok, List.map_toArray, List.map_cons, List.map_nil, hs, hx, hrun]
    exact hK _ _ (h v W (by simpa using hown) (gr_refl _ _) (.inl rfl) (by simp))
  · have hne : 0 < ys.length := by rw [hy]; exact Nat.mul_pos (by omega) hsz
    rcases hc with rfl | ⟨g, o', rfl, hf, hc⟩
    · simp at hne
    refine wpList_append_own_at W hgd s x t ho base e i z size bytes ht hi hz hsi hb hzs hsz v n xs hs hown ⟨g, o', none⟩ m c ys hx hy (fun j u hj => ?_) h1 h63 hl hbase ?_
    · have e1 : (⟨g, o', none⟩ : Addr).add j = ⟨g, o' + j, none⟩ := by unfold Addr.add; split <;> simp_all
      rw [e1]; exact hc j u hj
    · intro v1 w1 hown1 hg hnil hat
      refine h v1 w1 hown1 hg ?_ hnil
      rcases hat with hat | hat
      · exact .inl hat
      · exact .inr ⟨_, hat, Nat.le_refl _⟩
end

theorem own_base {w : World} {base : Nat} {e : TypeId} {size n : Nat} {v : Value} {xs : List Value} (h : w.ownsRow base e size v n xs) (k : Nat) (hk : v.ownBlock = some k) : base ≤ k := (h.lt k hk).1
theorem own_lt {w : World} {base : Nat} {e : TypeId} {size n : Nat} {v : Value} {xs : List Value} (h : w.ownsRow base e size v n xs) (k : Nat) (hk : v.ownBlock = some k) : k < w.heap.size := (h.lt k hk).2

/-! lists of numbers and of texts -/
def IntsR (F : Nat → Prop) (w : World) (v : Value) (l : List Int) : Prop := Rd F w v l.length (l.map (Value.int .i64))
def StrsR (F : Nat → Prop) (w : World) (v : Value) (l : List ByteArray) : Prop := Rd F w v l.length (l.map Value.string)

/-- '==' on texts, as the walk writes it -/
theorem streq (x y : ByteArray) : (x.toList == y.toList) = decide (x = y) := by
  rw [Bool.eq_iff_iff, beq_iff_eq, decide_eq_true_iff, ByteArray.toList_eq, ByteArray.toList_eq]
  constructor
  · intro h
    obtain ⟨⟨a⟩⟩ := x
    obtain ⟨⟨b⟩⟩ := y
    simpa using h
  · intro h; rw [h]
theorem streq_no {x y : ByteArray} (h : ¬ x = y) : (x.toList == y.toList) = false := by rw [streq]; exact decide_eq_false h
theorem streq_yes {x y : ByteArray} (h : x = y) : (x.toList == y.toList) = true := by rw [streq]; exact decide_eq_true h

theorem ret_int {k : IntKind} {a b : Int} (h : a = b) : Ending.returned (.int k a) = .returned (.int k b) := by rw [h]
theorem ret_two {a b a' b' : Value} (h1 : a = a') (h2 : b = b') : Ending.returned (.tuple #[a, b]) = .returned (.tuple #[a', b']) := by rw [h1, h2]
theorem val_int {k : IntKind} {a b : Int} (h : a = b) : Value.int k a = .int k b := by rw [h]
theorem ret_bool {a b : Bool} (h : a = b) : Ending.returned (.bool a) = .returned (.bool b) := by rw [h]
end Go.Proofs.YtoilgmdfbibniaaGreatDoor
