/- parse.Parse, where a text is a query without a condition. -/
import Derived.Test.YtoilgmdfbibniaaGreatDoorReadq
import Derived.Test.YtoilgmdfbibniaaGreatDoorFew
set_option linter.unusedSimpArgs false
set_option linter.unusedVariables false
set_option maxRecDepth 20000
namespace Go.Proofs.YtoilgmdfbibniaaGreatDoor
open Go Go.RowKit

theorem cells3_eq : cellsOf = cells3 := by funext v; cases v <;> rfl
theorem itemsR_of {rb : Nat} {w : World} {u : Value} {l : List ItemS} (h : repItems rb w u l) : ItemsR (· < w.heap.size) w u l := by
  obtain ⟨us, hl, hr, hrd⟩ := h
  have he : us.flatMap cellsOf = itemCells l := by
    clear hrd
    induction us generalizing l with
    | nil => cases l with
      | nil => rfl
      | cons y l => simp at hl
    | cons u us ih => cases l with
      | nil => simp at hl
      | cons y l =>
        have h0 : u = .agg #[.int .i64 (y.1 : Int), .string y.2] := hr 0 u y rfl rfl
        have h1 := ih (l := l) (by simpa using hl) (fun i u y hu hy => hr (i + 1) u y (by simpa using hu) (by simpa using hy))
        rw [List.flatMap_cons, h1, h0]
        rfl
  rw [he] at hrd
  exact hrd.lt
theorem rowsR_of {rb : Nat} {w : World} {u : Value} {l : List (List ByteArray)} (h : repSets rb w u l) : RowsR (· < w.heap.size) w u l := by
  obtain ⟨⟨us, hl, hr, hrd⟩, -⟩ := h
  have he : us.flatMap cellsOf = us := by
    clear hrd
    induction us generalizing l with
    | nil => rfl
    | cons u us ih => cases l with
      | nil => simp at hl
      | cons y l =>
        obtain ⟨a, c, h0⟩ := (hr 0 u y rfl rfl).slice
        have h1 := ih (l := l) (by simpa using hl) (fun i u y hu hy => hr (i + 1) u y (by simpa using hu) (by simpa using hy))
        rw [List.flatMap_cons, h1, h0]
        rfl
  rw [he] at hrd
  exact ⟨us, hl, fun i u y hu hy => (hr i u y hu hy).1.lt, hrd.lt⟩
theorem groupsR_of {rb : Nat} {w : World} {u : Value} {l : List GroupS} (h : repGroups rb w u l) : GroupsR (· < w.heap.size) w u l := by
  obtain ⟨us, hl, hr, hrd⟩ := h
  rw [cells3_eq] at hrd
  exact ⟨us, hl, fun i u y hu hy => by
    obtain ⟨vc, vs, e, h1, h2⟩ := hr i u y hu hy
    exact ⟨vc, vs, e, h1.1.lt, rowsR_of h2⟩, hrd.lt⟩

/-- a query value without a condition -/
def QueryV {α : Type} (w : World) (u : Value) (y : QueryS α) : Prop :=
  ∃ vi vg, u = .agg #[vi, .string y.table, .pointer none, .bool y.grouped, vg] ∧ ItemsR (· < w.heap.size) w vi y.items ∧ GroupsR (· < w.heap.size) w vg y.groups
def ParsePost {α : Type} (w : World) (y : QueryS α) (e : Ending) (w' : World) : Prop :=
  ∃ u, e = .returned (.tuple #[u, .agg #[.int .i64 0, .int .i64 0]]) ∧ QueryV w' u y ∧ w.grownBy w' none
theorem ItemsR.grow {w w' : World} {v : Value} {l : List ItemQ} {r : Option Nat} (h : ItemsR (· < w.heap.size) w v l) (hg : w.grownBy w' r) (hr : ∀ k, r = some k → w.heap.size ≤ k) : ItemsR (· < w'.heap.size) w' v l :=
  Rd.mono (Rd.keep h hg (fun k hk e => by have := hr k e.symm; omega)) (fun k hk => Nat.lt_of_lt_of_le hk hg.size)

theorem GroupsR.grow {w w' : World} {v : Value} {l : List GroupS} {r : Option Nat} (h : GroupsR (· < w.heap.size) w v l) (hg : w.grownBy w' r) (hr : ∀ k, r = some k → w.heap.size ≤ k) : GroupsR (· < w'.heap.size) w' v l := by
  have hF : ∀ k, k < w.heap.size → some k ≠ r := fun k hk e => by have := hr k e.symm; omega
  have hm : ∀ k, k < w.heap.size → k < w'.heap.size := fun k hk => Nat.lt_of_lt_of_le hk hg.size
  obtain ⟨us, hl, hr, hrd⟩ := h.keep hg hF
  exact ⟨us, hl, fun i u y hu hy => by
    obtain ⟨vc, vs, e, h1, us2, hl2, hr2, hrd2⟩ := hr i u y hu hy
    exact ⟨vc, vs, e, h1.mono hm, us2, hl2, fun i u y hu hy => (hr2 i u y hu hy).mono hm, hrd2.mono hm⟩, hrd.mono hm⟩

set_option maxHeartbeats 2000000 in
theorem Parse_ok {s : ByteArray} {ws : List W3} {y : QueryS Unit} {w : World} (hG : Glob w) (hs : s.size ≤ 4096) (hw : wordsF s = .ok ws) (he : EndOk ws) (hl : ws.length ≤ 4097) (hpos : 0 < ws.length) (hnw : ¬ ∃ (q : Nat) (x : W3), ws[q]? = some x ∧ isW x (⟨#[87, 72, 69, 82, 69]⟩ : ByteArray) = true)
    (hq : queryF ws (fun _ => none) 0 = some y) (hwh : y.wh = none) (hf : fewB y.items y.groups true = true) :
    Calls Tryz.prog 10 #[.string s] w (ParsePost w y) := by
  have hg1 := World.grownBy_alloc w (.cells #[.slice none 0 0, .string ⟨#[]⟩, .pointer none, .bool false, .slice none 0 0] 45) none
  have b1 := heap_new w (.cells #[.slice none 0 0, .string ⟨#[]⟩, .pointer none, .bool false, .slice none 0 0] 45) _ rfl
  have hg2 := gr_alloc hg1 (.cells #[.int .i64 0, .int .i64 0] 48)
  have b12 := heap_old _ (.cells #[.int .i64 0, .int .i64 0] 48) _ _ b1
  have b22 := heap_new (w.alloc (.cells #[.slice none 0 0, .string ⟨#[]⟩, .pointer none, .bool false, .slice none 0 0] 45)) (.cells #[.int .i64 0, .int .i64 0] 48) (w.heap.size + 1) (by simp)
  have HW := Words_any s _ (by omega) (hG.keepN hg2)
  rw [hw] at HW
  have h9 := hG.size
  clear b1 hg1
  go_enter Tryz.func10, Tryz.ntmps10
  go_wp2_with fail
  generalize ((w.alloc _).alloc _) = W at *
  refine HW.mono ?_
  clear HW
  rintro e w2 ⟨⟨v, rfl, hrd⟩, hb⟩
  have hgb := gr_below hb none
  have b13 := gr_blk hgb b12 (by simp)
  have b23 := gr_blk hgb b22 (by simp)
  have hg3 := gr_trans hg2 hgb
  obtain ⟨av, cv, rfl, hvc, hvm, -⟩ := id hrd
  have hga := World.grownBy_alloc w2 (.cells #[.int .i64 0, .int .i64 0] 48) none
  have HR := read_ok (rep := fun _ _ (_ : Unit) => False) (orF := fun _ => none) (fun _ _ _ _ _ h _ _ => h) (fun _ _ _ _ _ h _ _ => h) (fun _ _ _ h => h.elim) he (fun h => absurd h hnw) (hrd.keep hga (by simp)) hl hpos (by have := hg3.size; simp; omega) hq
  have b14 := heap_old _ (.cells #[.int .i64 0, .int .i64 0] 48) _ _ b13
  have b24 := heap_old _ (.cells #[.int .i64 0, .int .i64 0] 48) _ _ b23
  have b34 := heap_new w2 (.cells #[.int .i64 0, .int .i64 0] 48) _ rfl
  have hg4 := gr_trans hg3 hga
  have hsz2 := hg3.size
  have hlt2 := blk_lt b23
  clear hga b13 b23 hg3 b12 b22 hg2 hgb hb hrd
  go_wp2_with fail
  generalize (w2.alloc _) = w4 at *
  refine HR.mono ?_
  clear HR
  rintro e w5 ⟨u, rfl, ⟨vi, vw, vg, rfl, hi, hvw, hgr⟩, hg5⟩
  have hvw2 : vw = .pointer none := by unfold repWhere at hvw; rw [hwh] at hvw; exact hvw
  subst hvw2
  clear hvw
  obtain ⟨ai, ci, rfl⟩ := sliceRep_slice hi
  obtain ⟨ag, cg, rfl⟩ := sliceRep_slice hgr
  have b15 := gr_blk hg5 b14 (by simp)
  have b25 := gr_blk hg5 b24 (by simp)
  have b35 := gr_blk hg5 b34 (by simp)
  have hg6 := gr_trans hg4 hg5
  have hB5 := blk_lt b35
  have q0 := blk_cell (l := [_, _]) b35 0 _ rfl
  have q1 := blk_cell (l := [_, _]) b35 1 _ rfl
  have qf := blk_free b35
  have htB : tyOf w5 w2.heap.size = some 48 := by unfold tyOf; rw [b35]
  clear b14 b24 b34 hg4 hg5
  generalize w2.heap.size = B at *
  -- the fault's variable, written
  have hgF := gr_setR (p := ⟨B, 1, none⟩) (gr_setR (p := ⟨B, 0, none⟩) (gr_refl w5 (some B)) rfl (.int .i64 0)) rfl (.int .i64 0)
  have hg7 := gr_set (p := ⟨B, 1, none⟩) (gr_set (p := ⟨B, 0, none⟩) hg6 hsz2 (.int .i64 0)) hsz2 (.int .i64 0)
  have b36 := blk_set (blk_set b35 0 (.int .i64 0)) 1 (.int .i64 0)
  have b16 := gr_blk hgF b15 (by simp; omega)
  have b26 := gr_blk hgF b25 (by simp; omega)
  have hszF : ((w5.setCell ⟨B, 0, none⟩ (.int .i64 0)).setCell ⟨B, 1, none⟩ (.int .i64 0)).heap.size = w5.heap.size := by rw [size_set, size_set]
  have hk1 : ∀ k, some B = some k → k = w4.heap.size + 2 ∨ tyOf w5 k = some 48 := fun k e => .inr (by cases e; exact htB)
  have hi := repItems_keeps (rb := w4.heap.size + 2) (t := 48) (by decide) _ _ _ y.items (some B) hi hgF hk1
  have hgr := repGroups_keeps (rb := w4.heap.size + 2) (t := 48) (by decide) (by decide) (by decide) _ _ _ y.groups (some B) hgr hgF hk1
  clear hk1 htB b15 b25
  have hga := World.grownBy_alloc ((w5.setCell ⟨B, 0, none⟩ (.int .i64 0)).setCell ⟨B, 1, none⟩ (.int .i64 0)) (.cells #[.slice ai y.items.length ci, .string y.table, .pointer none, .bool y.grouped, .slice ag y.groups.length cg] 45) none
  have b17 := heap_old _ (.cells #[.slice ai y.items.length ci, .string y.table, .pointer none, .bool y.grouped, .slice ag y.groups.length cg] 45) _ _ b16
  have b27 := heap_old _ (.cells #[.slice ai y.items.length ci, .string y.table, .pointer none, .bool y.grouped, .slice ag y.groups.length cg] 45) _ _ b26
  have b47 := heap_new ((w5.setCell ⟨B, 0, none⟩ (.int .i64 0)).setCell ⟨B, 1, none⟩ (.int .i64 0)) (.cells #[.slice ai y.items.length ci, .string y.table, .pointer none, .bool y.grouped, .slice ag y.groups.length cg] 45) w5.heap.size hszF.symm
  have hi := (repItems_keeps (rb := w4.heap.size + 2) (t := 116) (by decide)).rb hi (gr_some hga _)
  have hgr := (repGroups_keeps (rb := w4.heap.size + 2) (t := 116) (by decide) (by decide) (by decide)).rb hgr (gr_some hga _)
  have hg8 := gr_trans hg7 hga
  have HF := few_any (bw := true) (table := y.table) (grouped := y.grouped) (pw := none) (itemsR_of hi) (groupsR_of hgr) (fun W _ => (walk_nil 1 _ _ W).mono fun e w' h => ⟨h.1, by rw [← h.2]; exact gr_refl _ _⟩)
  rw [hf] at HF
  have hsz8 := hg8.size
  clear hgF hga hg7 hg6 b36 b35 hf
  go_wp2_with fail
  refine HF.mono ?_
  clear HF
  rintro e w9 ⟨rfl, hg9⟩
  have b19 := gr_blk hg9 b17 (by simp)
  have b29 := gr_blk hg9 b27 (by simp)
  have b49 := gr_blk hg9 b47 (by simp)
  have hi := (repItems_keeps (rb := w4.heap.size + 2) (t := 116) (by decide)).rb hi (gr_some hg9 _)
  have hgr := (repGroups_keeps (rb := w4.heap.size + 2) (t := 116) (by decide) (by decide) (by decide)).rb hgr (gr_some hg9 _)
  have hg10 := gr_trans hg8 hg9
  have r0 := blk_cell (l := [_, _, _, _, _]) b49 0 _ rfl
  have r1 := blk_cell (l := [_, _, _, _, _]) b49 1 _ rfl
  have r2 := blk_cell (l := [_, _, _, _, _]) b49 2 _ rfl
  have r3 := blk_cell (l := [_, _, _, _, _]) b49 3 _ rfl
  have r4 := blk_cell (l := [_, _, _, _, _]) b49 4 _ rfl
  have hlt9 := blk_lt b49
  clear hg8 hg9 b17 b27 b47 q0 q1 qf b16 b26
  go_wp2_with fail
  refine (walk_nil 1 _ _ w9).mono ?_
  rintro e w' ⟨rfl, rfl⟩
  generalize w4.heap.size + 2 = rb at *
  have p0 := blk_cell (l := [_, _, _, _, _]) b19 0 _ rfl
  have p1 := blk_cell (l := [_, _, _, _, _]) b19 1 _ rfl
  have p2 := blk_cell (l := [_, _, _, _, _]) b19 2 _ rfl
  have p3 := blk_cell (l := [_, _, _, _, _]) b19 3 _ rfl
  have p4 := blk_cell (l := [_, _, _, _, _]) b19 4 _ rfl
  have pf := blk_free b19
  have q0 := blk_cell (l := [_, _]) b29 0 _ rfl
  have q1 := blk_cell (l := [_, _]) b29 1 _ rfl
  have qf := blk_free b29
  clear hsz8 hszF
  go_wp2_with fail
  clear p0 p1 p2 p3 p4 pf q0 q1 qf r0 r1 r2 r3 r4
  have ht0 : tyOf w9 w.heap.size = some 45 := by unfold tyOf; rw [b19]
  have hgA := gr_setR (p := ⟨w.heap.size, 4, none⟩) (gr_setR (p := ⟨w.heap.size, 3, none⟩) (gr_setR (p := ⟨w.heap.size, 2, none⟩) (gr_setR (p := ⟨w.heap.size, 1, none⟩) (gr_setR (p := ⟨w.heap.size, 0, none⟩) (gr_refl w9 (some w.heap.size)) rfl (.slice ai y.items.length ci)) rfl (.string y.table)) rfl (.pointer none)) rfl (.bool y.grouped)) rfl (.slice ag y.groups.length cg)
  have hgA2 := gr_set (p := ⟨w.heap.size, 4, none⟩) (gr_set (p := ⟨w.heap.size, 3, none⟩) (gr_set (p := ⟨w.heap.size, 2, none⟩) (gr_set (p := ⟨w.heap.size, 1, none⟩) (gr_set (p := ⟨w.heap.size, 0, none⟩) hg10 (Nat.le_refl _) (.slice ai y.items.length ci)) (Nat.le_refl _) (.string y.table)) (Nat.le_refl _) (.pointer none)) (Nat.le_refl _) (.bool y.grouped)) (Nat.le_refl _) (.slice ag y.groups.length cg)
  have hbA := blk_set (blk_set (blk_set (blk_set (blk_set b19 0 (.slice ai y.items.length ci)) 1 (.string y.table)) 2 (.pointer none)) 3 (.bool y.grouped)) 4 (.slice ag y.groups.length cg)
  have hbB := gr_blk hgA b29 (by simp)
  have hk1 : ∀ k, some w.heap.size = some k → k = rb ∨ tyOf w9 k = some 45 := fun k e => .inr (by cases e; exact ht0)
  generalize hW : (World.setCell (World.setCell (World.setCell (World.setCell (World.setCell w9 _ _) _ _) _ _) _ _) _ _) = W2 at *
  have hi := repItems_keeps (rb := rb) (t := 45) (by decide) w9 W2 _ y.items (some w.heap.size) hi hgA hk1
  have hgr := repGroups_keeps (rb := rb) (t := 45) (by decide) (by decide) (by decide) w9 W2 _ y.groups (some w.heap.size) hgr hgA hk1
  clear hgA hk1 ht0 b19 b29 hg10 hW
  have ht1 : tyOf W2 (w.heap.size + 1) = some 48 := by unfold tyOf; rw [hbB]
  have hgB := gr_setR (p := ⟨w.heap.size + 1, 1, none⟩) (gr_setR (p := ⟨w.heap.size + 1, 0, none⟩) (gr_refl W2 (some (w.heap.size + 1))) rfl (.int .i64 0)) rfl (.int .i64 0)
  have hgB2 := gr_set (p := ⟨w.heap.size + 1, 1, none⟩) (gr_set (p := ⟨w.heap.size + 1, 0, none⟩) hgA2 (by simp) (.int .i64 0)) (by simp) (.int .i64 0)
  have hbC := blk_set (blk_set hbB 0 (.int .i64 0)) 1 (.int .i64 0)
  have hbD := gr_blk hgB hbA (by simp)
  have hk1 : ∀ k, some (w.heap.size + 1) = some k → k = rb ∨ tyOf W2 k = some 48 := fun k e => .inr (by cases e; exact ht1)
  generalize hW : (World.setCell (World.setCell W2 _ _) _ _) = W3 at *
  have hi := itemsR_of (repItems_keeps (rb := rb) (t := 48) (by decide) W2 W3 _ y.items (some (w.heap.size + 1)) hi hgB hk1)
  have hgr := groupsR_of (repGroups_keeps (rb := rb) (t := 48) (by decide) (by decide) (by decide) W2 W3 _ y.groups (some (w.heap.size + 1)) hgr hgB hk1)
  have c0 := blk_cell (l := [_, _, _, _, _]) hbD 0 _ rfl
  have c1 := blk_cell (l := [_, _, _, _, _]) hbD 1 _ rfl
  have c2 := blk_cell (l := [_, _, _, _, _]) hbD 2 _ rfl
  have c3 := blk_cell (l := [_, _, _, _, _]) hbD 3 _ rfl
  have c4 := blk_cell (l := [_, _, _, _, _]) hbD 4 _ rfl
  have d0 := blk_cell (l := [_, _]) hbC 0 _ rfl
  have d1 := blk_cell (l := [_, _]) hbC 1 _ rfl
  refine bodyPost_ret (v := .tuple #[.agg #[.slice ai y.items.length ci, .string y.table, .pointer none, .bool y.grouped, .slice ag y.groups.length cg], .agg #[.int .i64 0, .int .i64 0]]) ?_ rfl ⟨_, rfl, ⟨_, _, rfl, hi, hgr⟩, hgB2⟩
  simp [results, Tryz.results10, go_sem, c0, c1, c2, c3, c4, d0, d1]
end Go.Proofs.YtoilgmdfbibniaaGreatDoor
