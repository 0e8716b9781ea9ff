/- plan.choose and what it calls. -/
import Derived.Test.YtoilgmdfbibniaaGreatDoorNeed
set_option linter.unusedSimpArgs false
set_option linter.unusedVariables false
set_option maxRecDepth 20000
namespace Go.Proofs.YtoilgmdfbibniaaGreatDoor
open Go Go.RowKit

def cmpF (a b : Int) : Int := if a < b then -1 else if b < a then 1 else 0
theorem isNaN_any (n : Int) (w : World) : Calls Tryz.prog 98 #[.int .i64 n] w fun e w' => e = .returned (.bool false) ∧ w = w' := by
  go_enter Tryz.func98, Tryz.ntmps98
  go_wp2
  go_ret
  simp
theorem Compare_any (a b : Int) (w : World) : Calls Tryz.prog 48 #[.int .i64 a, .int .i64 b] w fun e w' => e = .returned (.int .i64 (cmpF a b)) ∧ w = w' := by
  by_cases h1 : a < b
  · have HS : Hid (cmpF a b = -1) := by simp [cmpF, h1, Hid]
    go_enter Tryz.func48, Tryz.ntmps48
    go_wp2_with (go_at_call 98; refine (isNaN_any _ _).mono ?_; rintro e w' ⟨rfl, rfl⟩)
    go_ret
    exact ⟨by rw [HS.out]; rfl, rfl⟩
  · by_cases h2 : b < a
    · have HS : Hid (cmpF a b = 1) := by simp [cmpF, h1, h2, Hid]
      go_enter Tryz.func48, Tryz.ntmps48
      go_wp2_with (go_at_call 98; refine (isNaN_any _ _).mono ?_; rintro e w' ⟨rfl, rfl⟩)
      go_ret
      exact ⟨by rw [HS.out]; rfl, rfl⟩
    · have HS : Hid (cmpF a b = 0) := by simp [cmpF, h1, h2, Hid]
      go_enter Tryz.func48, Tryz.ntmps48
      go_wp2_with (go_at_call 98; refine (isNaN_any _ _).mono ?_; rintro e w' ⟨rfl, rfl⟩)
      go_ret
      exact ⟨by rw [HS.out]; rfl, rfl⟩

def orF (a b : Int) : Int := if a = 0 then b else a
theorem Or_any (a b : Int) (g : Nat) (w : World) (ha : w.cell? ⟨g, 0, none⟩ = some (.int .i64 a)) (hb : w.cell? ⟨g, 1, none⟩ = some (.int .i64 b)) :
    Calls Tryz.prog 47 #[.slice (some ⟨g, 0, none⟩) 2 2] w fun e w' => e = .returned (.int .i64 (orF a b)) ∧ w = w' := by
  have hgs := World.block_lt_of_cell? w _ ha
  simp only at hgs
  by_cases h : a = 0
  · subst h
    by_cases h : b = 0
    · subst h
      go_enter Tryz.func47, Tryz.ntmps47
      go_wp2
      refine wp_loop_rounds 3 ?_
      rw [rounds_succ]
      go_wp2
      rw [rounds_succ]
      go_wp2
      rw [rounds_succ]
      go_wp2
      go_ret
      exact ⟨rfl, rfl⟩
    · have h' : (b != 0) = true := by simpa using h
      have HS : Hid (orF 0 b = b) := by simp [orF, Hid]
      clear h
      go_enter Tryz.func47, Tryz.ntmps47
      go_wp2
      refine wp_loop_rounds 2 ?_
      rw [rounds_succ]
      go_wp2
      rw [rounds_succ]
      go_wp2
      go_ret
      exact ⟨by rw [HS.out]; rfl, rfl⟩
  · have h' : (a != 0) = true := by simpa using h
    have HS : Hid (orF a b = a) := by simp [orF, Hid, h]
    clear h
    go_enter Tryz.func47, Tryz.ntmps47
    go_wp2
    refine wp_loop_rounds 1 ?_
    rw [rounds_succ]
    go_wp2
    go_ret
    exact ⟨by rw [HS.out]; rfl, rfl⟩

structure VI where
  set : Int
  state : Int
  seq : Int
  rows : Int
  bytes : Int
  readers : Int
def VI.cells (x : VI) : List Value := [.int .i64 x.set, .int .i64 x.state, .int .i64 x.seq, .int .i64 x.rows, .int .i64 x.bytes, .int .i64 x.readers]

def meantB (head need : Int) (x : VI) : Bool := (x.state == 2) && (x.seq == head) && coversB x.set need
def cmpVI (a b : VI) : Int := orF (cmpF (max a.rows 0) (max b.rows 0)) (cmpF a.set b.set)
theorem meant_any (head need : Int) (x : VI) (hb nb : Nat) (w : World) (hh : w.cell? ⟨hb, 0, none⟩ = some (.int .i64 head)) (hn : w.cell? ⟨nb, 0, none⟩ = some (.int .i64 need)) :
    Calls Tryz.prog 45 #[.agg #[.int .i64 x.set, .int .i64 x.state, .int .i64 x.seq, .int .i64 x.rows, .int .i64 x.bytes, .int .i64 x.readers], .pointer (some ⟨hb, 0, none⟩), .pointer (some ⟨nb, 0, none⟩)] w
      fun e w' => e = .returned (.bool (meantB head need x)) ∧ w.grownBy w' none := by
  have HS : Hid (meantB head need x = ((x.state == 2) && (x.seq == head) && coversB x.set need)) := rfl
  generalize meantB head need x = res at *
  obtain ⟨set, state, seq, rows, bytes, readers⟩ := x
  have h1 := World.block_lt_of_cell? w _ hh
  have h2 := World.block_lt_of_cell? w _ hn
  simp only at h1 h2
  simp only at HS
  by_cases k1 : state = 2
  · subst k1
    by_cases k2 : seq = head
    · subst k2
      go_enter Tryz.func45, Tryz.ntmps45
      go_wp2_with (go_at_call 8; refine (Covers_any _ _ _).mono ?_; rintro e w' ⟨rfl, rfl⟩)
      go_ret
      exact ⟨by rw [HS.out]; simp, gr_alloc (gr_refl _ _) _⟩
    · have k2' : (seq == head) = false := by simpa using k2
      clear k2
      go_enter Tryz.func45, Tryz.ntmps45
      go_wp2
      go_ret
      exact ⟨by rw [HS.out]; simp [k2'], gr_alloc (gr_refl _ _) _⟩
  · have k1' : (state == 2) = false := by simpa using k1
    clear k1
    go_enter Tryz.func45, Tryz.ntmps45
    go_wp2
    go_ret
    exact ⟨by rw [HS.out]; simp [k1'], gr_alloc (gr_refl _ _) _⟩

theorem still_of {P : Program} {f : FuncId} {args : Array Value} {w : World} {v : Value} (h : Calls P f args w fun e w' => e = .returned v ∧ w = w') : Calls P f args w fun e w' => e = .returned v ∧ w' = w :=
  h.mono fun _ _ h => ⟨h.1, h.2.symm⟩

theorem cmpVI_any (x y : VI) (w : World) :
    Calls Tryz.prog 46 #[.agg #[.int .i64 x.set, .int .i64 x.state, .int .i64 x.seq, .int .i64 x.rows, .int .i64 x.bytes, .int .i64 x.readers], .agg #[.int .i64 y.set, .int .i64 y.state, .int .i64 y.seq, .int .i64 y.rows, .int .i64 y.bytes, .int .i64 y.readers]] w
      fun e w' => e = .returned (.int .i64 (cmpVI x y)) ∧ w.grownBy w' none := by
  have HS : Hid (cmpVI x y = orF (cmpF (max x.rows 0) (max y.rows 0)) (cmpF x.set y.set)) := rfl
  generalize cmpVI x y = res at *
  obtain ⟨a1, a2, a3, a4, a5, a6⟩ := x
  obtain ⟨b1, b2, b3, b4, b5, b6⟩ := y
  simp only at HS
  go_enter Tryz.func46, Tryz.ntmps46
  go_wp2
  have hg1 : w.grownBy ((w.alloc (.cells #[.int .i64 a1, .int .i64 a2, .int .i64 a3, .int .i64 a4, .int .i64 a5, .int .i64 a6] 32)).alloc (.cells #[.int .i64 b1, .int .i64 b2, .int .i64 b3, .int .i64 b4, .int .i64 b5, .int .i64 b6] 32)).drew none := gr_drew (gr_alloc (gr_alloc (gr_refl _ _) _) _)
  refine still_tail 12 (by kernel_rfl) (by kernel_rfl) ?_
  simp only [List.take_succ_cons, List.take_zero, List.drop_succ_cons, List.drop_zero]
  repeat still_step
  still_call (still_of (Compare_any _ _ _))
  repeat still_step
  still_call (still_of (Compare_any _ _ _))
  refine wpStill_nil ?_
  generalize (World.drew _) = W at *
  go_wp2_with fail
  refine (Or_any (cmpF (max a4 0) (max b4 0)) (cmpF a1 b1) _ _ ?_ ?_).mono ?_
  · go_simp
  · go_simp
  rintro e w' ⟨rfl, rfl⟩
  go_wp2_with fail
  go_ret
  exact ⟨by rw [HS.out]; rfl, gr_alloc hg1 _⟩

/-- the least of those that are meant: the fold of plan.least -/
def leastStep (head need : Int) (s : VI × Bool) (x : VI) : VI × Bool := if meantB head need x && (!s.2 || decide (cmpVI x s.1 < 0)) then (x, true) else s
def leastF (head need : Int) (l : List VI) : VI × Bool := l.foldl (leastStep head need) (⟨0, 0, 0, 0, 0, 0⟩, false)
def VIsR (F : Nat → Prop) (w : World) (v : Value) (l : List VI) : Prop := Rd F w v l.length (l.flatMap VI.cells)

theorem viFlat_at (l : List VI) (k : Nat) (h : k < l.length) : (l.flatMap VI.cells)[k * 6]? = some (.int .i64 l[k].set) ∧ (l.flatMap VI.cells)[k * 6 + 1]? = some (.int .i64 l[k].state) ∧ (l.flatMap VI.cells)[k * 6 + 2]? = some (.int .i64 l[k].seq) ∧
    (l.flatMap VI.cells)[k * 6 + 3]? = some (.int .i64 l[k].rows) ∧ (l.flatMap VI.cells)[k * 6 + 4]? = some (.int .i64 l[k].bytes) ∧ (l.flatMap VI.cells)[k * 6 + 5]? = some (.int .i64 l[k].readers) := by
  induction l generalizing k with
  | nil => simp at h
  | cons x l ih =>
    cases k with
    | zero => simp [VI.cells]
    | succ k =>
      have := ih k (by simpa using h)
      simp only [List.flatMap_cons, List.getElem_cons_succ]
      have hl : x.cells.length = 6 := rfl
      have e : ∀ j, (x.cells ++ l.flatMap VI.cells)[(k + 1) * 6 + j]? = (l.flatMap VI.cells)[k * 6 + j]? := by
        intro j
        rw [List.getElem?_append_right (by omega), hl]
        congr 1
        omega
      exact ⟨by rw [← this.1]; exact e 0, by rw [← this.2.1]; exact e 1, by rw [← this.2.2.1]; exact e 2, by rw [← this.2.2.2.1]; exact e 3, by rw [← this.2.2.2.2.1]; exact e 4, by rw [← this.2.2.2.2.2]; exact e 5⟩
theorem viFlat_len (l : List VI) : (l.flatMap VI.cells).length = l.length * 6 := by
  induction l with
  | nil => rfl
  | cons x l ih => simp [ih, VI.cells]; omega

set_option maxHeartbeats 1000000 in
theorem least_any (F : Nat → Prop) (head need : Int) (l : List VI) (v : Value) (hb nb : Nat) (w : World) (hh : w.cell? ⟨hb, 0, none⟩ = some (.int .i64 head)) (hn : w.cell? ⟨nb, 0, none⟩ = some (.int .i64 need)) (hv : VIsR F w v l) :
    Calls Tryz.prog 44 #[v, .func (.func 45) #[] #[.pointer (some ⟨hb, 0, none⟩), .pointer (some ⟨nb, 0, none⟩)], .func (.func 46) #[] #[]] w
      fun e w' => e = .returned (.tuple #[.agg (leastF head need l).1.cells.toArray, .bool (leastF head need l).2]) ∧ w.grownBy w' none := by
  have hv' := hv
  obtain ⟨a, c, rfl, hc, hm, -⟩ := hv'
  have hm' : l.length ≤ 9223372036854775807 := by unfold maxLen at hm; omega
  clear hm hc
  have HS : Hid (leastF head need l = l.foldl (leastStep head need) (⟨0, 0, 0, 0, 0, 0⟩, false)) := rfl
  generalize leastF head need l = res at *
  have hbs := World.block_lt_of_cell? w _ hh
  have nbs := World.block_lt_of_cell? w _ hn
  simp only at hbs nbs
  go_enter Tryz.func44, Tryz.ntmps44
  go_wp2
  have hg1 : w.grownBy ((w.alloc (.cells #[.int .i64 0, .int .i64 0, .int .i64 0, .int .i64 0, .int .i64 0, .int .i64 0] 32)).alloc (.cells #[.int .i64 0, .int .i64 0, .int .i64 0, .int .i64 0, .int .i64 0, .int .i64 0] 32)) none := gr_alloc (gr_alloc (gr_refl _ _) _) _
  go_loopw [9, 14] (fun f i wr => ∃ (k : Nat) (out : VI) (found : Bool), k ≤ l.length ∧ i = .int .i64 k ∧ f = .bool found ∧ (l.take k).foldl (leastStep head need) (⟨0, 0, 0, 0, 0, 0⟩, false) = (out, found) ∧ w.grownBy wr none ∧ w.heap.size + 2 ≤ wr.heap.size ∧
      wr.heap[w.heap.size]? = some (.cells #[.int .i64 0, .int .i64 0, .int .i64 0, .int .i64 0, .int .i64 0, .int .i64 0] 32) ∧
      wr.heap[w.heap.size + 1]? = some (.cells #[.int .i64 out.set, .int .i64 out.state, .int .i64 out.seq, .int .i64 out.rows, .int .i64 out.bytes, .int .i64 out.readers] 32)) (fun _ i _ => l.length - (intOf i).toNat)
  case atStart => 
    refine ⟨0, _, _, Nat.zero_le _, rfl, rfl, rfl, hg1, ?_, ?_, ?_⟩
    · simp
    · exact heap_old _ _ _ _ (heap_new _ _ _ rfl)
    · exact heap_new _ _ _ (by simp)
  case round =>
    obtain ⟨k, out, found, hk, rfl, rfl, hfold, hg, hsz, hb0, hb1⟩ := hrel
    by_cases hlt : k < l.length
    · obtain ⟨g, o, rfl, hFg, hgs, hcell⟩ := Rd.at_ hv (j := k * 6) (by rw [viFlat_len]; omega)
      obtain ⟨f0, f1, f2, f3, f4, f5⟩ := viFlat_at l k hlt
      have HK : Hid ((l.take (k + 1)).foldl (leastStep head need) (⟨0, 0, 0, 0, 0, 0⟩, false) = leastStep head need (out, found) l[k]) := by
        unfold Hid; rw [List.take_succ_eq_append_getElem hlt, List.foldl_append, hfold]; rfl
      have x0 := gr_cell hg (hcell _ _ f0) (by simp)
      have x1 : wr.cell? ⟨g, o + k * 6 + 1, none⟩ = some (.int .i64 l[k].state) := by rw [Nat.add_assoc]; exact gr_cell hg (hcell _ _ f1) (by simp)
      have x2 : wr.cell? ⟨g, o + k * 6 + 2, none⟩ = some (.int .i64 l[k].seq) := by rw [Nat.add_assoc]; exact gr_cell hg (hcell _ _ f2) (by simp)
      have x3 : wr.cell? ⟨g, o + k * 6 + 3, none⟩ = some (.int .i64 l[k].rows) := by rw [Nat.add_assoc]; exact gr_cell hg (hcell _ _ f3) (by simp)
      have x4 : wr.cell? ⟨g, o + k * 6 + 4, none⟩ = some (.int .i64 l[k].bytes) := by rw [Nat.add_assoc]; exact gr_cell hg (hcell _ _ f4) (by simp)
      have x5 : wr.cell? ⟨g, o + k * 6 + 5, none⟩ = some (.int .i64 l[k].readers) := by rw [Nat.add_assoc]; exact gr_cell hg (hcell _ _ f5) (by simp)
      generalize l[k] = x at *
      have hh1 := gr_cell hg hh (by simp)
      have hn1 := gr_cell hg hn (by simp)
      have o0 := blk_cell (l := [_, _, _, _, _, _]) hb1 0 _ rfl
      have o1 := blk_cell (l := [_, _, _, _, _, _]) hb1 1 _ rfl
      have o2 := blk_cell (l := [_, _, _, _, _, _]) hb1 2 _ rfl
      have o3 := blk_cell (l := [_, _, _, _, _, _]) hb1 3 _ rfl
      have o4 := blk_cell (l := [_, _, _, _, _, _]) hb1 4 _ rfl
      have o5 := blk_cell (l := [_, _, _, _, _, _]) hb1 5 _ rfl
      clear hcell f0 f1 f2 f3 f4 f5 hfold
      have hgr : g < wr.heap.size := by omega
      have y1 : w.heap.size + 1 < wr.heap.size := by omega
      go_wp2_with fail
      have hg2 : w.grownBy (wr.alloc (.cells #[.int .i64 x.set, .int .i64 x.state, .int .i64 x.seq, .int .i64 x.rows, .int .i64 x.bytes, .int .i64 x.readers] 32)) none := gr_alloc hg _
      have bx := heap_new wr (.cells #[.int .i64 x.set, .int .i64 x.state, .int .i64 x.seq, .int .i64 x.rows, .int .i64 x.bytes, .int .i64 x.readers] 32) _ rfl
      have hb2 := heap_old wr (.cells #[.int .i64 x.set, .int .i64 x.state, .int .i64 x.seq, .int .i64 x.rows, .int .i64 x.bytes, .int .i64 x.readers] 32) _ _ hb1
      have hb3 := heap_old wr (.cells #[.int .i64 x.set, .int .i64 x.state, .int .i64 x.seq, .int .i64 x.rows, .int .i64 x.bytes, .int .i64 x.readers] 32) _ _ hb0
      refine (meant_any head need x hb nb _ (gr_cell hg2 hh (by simp)) (gr_cell hg2 hn (by simp))).mono ?_
      generalize (wr.alloc (.cells #[.int .i64 x.set, .int .i64 x.state, .int .i64 x.seq, .int .i64 x.rows, .int .i64 x.bytes, .int .i64 x.readers] 32)) = W1 at *
      rintro e w2 ⟨rfl, hg3⟩
      have bx2 := gr_blk hg3 bx (by simp)
      have hb4 := gr_blk hg3 hb2 (by simp)
      have hb5 := gr_blk hg3 hb3 (by simp)
      have hg4 := gr_trans hg2 hg3
      have hsz2 := blk_lt bx2
      clear hg3 bx hb2 hb3 hg2 x0 x1 x2 x3 x4 x5 o0 o1 o2 o3 o4 o5 hh1 hn1
      cases hmt : meantB head need x
      · have HL : Hid (leastStep head need (out, found) x = (out, found)) := by simp [leastStep, hmt, Hid]
        clear hmt
        go_wp2_with fail
        go_roundw
        case rel => exact ⟨k + 1, out, found, by omega, by go_num, rfl, by rw [HK.out, HL.out], hg4, by omega, hb5, hb4⟩
        case measure => simp [intOf]; omega
      · cases found
        · have HL : Hid (leastStep head need (out, false) x = (x, true)) := by simp [leastStep, hmt, Hid]
          clear hmt
          have x0 := blk_cell (l := [_, _, _, _, _, _]) bx2 0 _ rfl
          have x1 := blk_cell (l := [_, _, _, _, _, _]) bx2 1 _ rfl
          have x2 := blk_cell (l := [_, _, _, _, _, _]) bx2 2 _ rfl
          have x3 := blk_cell (l := [_, _, _, _, _, _]) bx2 3 _ rfl
          have x4 := blk_cell (l := [_, _, _, _, _, _]) bx2 4 _ rfl
          have x5 := blk_cell (l := [_, _, _, _, _, _]) bx2 5 _ rfl
          have o0 := blk_cell (l := [_, _, _, _, _, _]) hb4 0 _ rfl
          have o1 := blk_cell (l := [_, _, _, _, _, _]) hb4 1 _ rfl
          have o2 := blk_cell (l := [_, _, _, _, _, _]) hb4 2 _ rfl
          have o3 := blk_cell (l := [_, _, _, _, _, _]) hb4 3 _ rfl
          have o4 := blk_cell (l := [_, _, _, _, _, _]) hb4 4 _ rfl
          have o5 := blk_cell (l := [_, _, _, _, _, _]) hb4 5 _ rfl
          have of := blk_free hb4
          go_wp2_with fail
          go_roundw
          case rel =>
            refine ⟨k + 1, x, true, by omega, by go_num, rfl, by rw [HK.out, HL.out], ?_, ?_, ?_, ?_⟩
            · exact gr_set (gr_set (gr_set (gr_set (gr_set (gr_set hg4 (by simp) _) (by simp) _) (by simp) _) (by simp) _) (by simp) _) (by simp) _
            · simp only [size_set]; omega
            · exact blk_set_ne (blk_set_ne (blk_set_ne (blk_set_ne (blk_set_ne (blk_set_ne hb5 (by omega) _ _) (by omega) _ _) (by omega) _ _) (by omega) _ _) (by omega) _ _) (by omega) _ _
            · exact blk_set (blk_set (blk_set (blk_set (blk_set (blk_set hb4 0 _) 1 _) 2 _) 3 _) 4 _) 5 _
          case measure => simp [intOf]; omega
        · have HB : Hid (leastStep head need (out, true) x = if cmpVI x out < 0 then (x, true) else (out, true)) := by simp [leastStep, hmt, Hid]
          clear hmt
          have x0 := blk_cell (l := [_, _, _, _, _, _]) bx2 0 _ rfl
          have x1 := blk_cell (l := [_, _, _, _, _, _]) bx2 1 _ rfl
          have x2 := blk_cell (l := [_, _, _, _, _, _]) bx2 2 _ rfl
          have x3 := blk_cell (l := [_, _, _, _, _, _]) bx2 3 _ rfl
          have x4 := blk_cell (l := [_, _, _, _, _, _]) bx2 4 _ rfl
          have x5 := blk_cell (l := [_, _, _, _, _, _]) bx2 5 _ rfl
          have o0 := blk_cell (l := [_, _, _, _, _, _]) hb4 0 _ rfl
          have o1 := blk_cell (l := [_, _, _, _, _, _]) hb4 1 _ rfl
          have o2 := blk_cell (l := [_, _, _, _, _, _]) hb4 2 _ rfl
          have o3 := blk_cell (l := [_, _, _, _, _, _]) hb4 3 _ rfl
          have o4 := blk_cell (l := [_, _, _, _, _, _]) hb4 4 _ rfl
          have o5 := blk_cell (l := [_, _, _, _, _, _]) hb4 5 _ rfl
          go_wp2_with fail
          refine (cmpVI_any x out w2).mono ?_
          generalize cmpVI x out = d at *
          rintro e w3 ⟨rfl, hg5⟩
          have bx3 := gr_blk hg5 bx2 (by simp)
          have hb6 := gr_blk hg5 hb4 (by simp)
          have hb7 := gr_blk hg5 hb5 (by simp)
          have hg6 := gr_trans hg4 hg5
          have hsz3 := blk_lt bx3
          clear hg5 bx2 hb4 hb5 hg4 x0 x1 x2 x3 x4 x5 o0 o1 o2 o3 o4 o5
          by_cases hd : d < 0
          · have HL : Hid (leastStep head need (out, true) x = (x, true)) := by unfold Hid; rw [HB.out, if_pos hd]
            clear HB
            have x0 := blk_cell (l := [_, _, _, _, _, _]) bx3 0 _ rfl
            have x1 := blk_cell (l := [_, _, _, _, _, _]) bx3 1 _ rfl
            have x2 := blk_cell (l := [_, _, _, _, _, _]) bx3 2 _ rfl
            have x3 := blk_cell (l := [_, _, _, _, _, _]) bx3 3 _ rfl
            have x4 := blk_cell (l := [_, _, _, _, _, _]) bx3 4 _ rfl
            have x5 := blk_cell (l := [_, _, _, _, _, _]) bx3 5 _ rfl
            have o0 := blk_cell (l := [_, _, _, _, _, _]) hb6 0 _ rfl
            have o1 := blk_cell (l := [_, _, _, _, _, _]) hb6 1 _ rfl
            have o2 := blk_cell (l := [_, _, _, _, _, _]) hb6 2 _ rfl
            have o3 := blk_cell (l := [_, _, _, _, _, _]) hb6 3 _ rfl
            have o4 := blk_cell (l := [_, _, _, _, _, _]) hb6 4 _ rfl
            have o5 := blk_cell (l := [_, _, _, _, _, _]) hb6 5 _ rfl
            have of := blk_free hb6
            go_wp2_with fail
            go_roundw
            case rel =>
              refine ⟨k + 1, x, true, by omega, by go_num, rfl, by rw [HK.out, HL.out], ?_, ?_, ?_, ?_⟩
              · exact gr_set (gr_set (gr_set (gr_set (gr_set (gr_set hg6 (by simp) _) (by simp) _) (by simp) _) (by simp) _) (by simp) _) (by simp) _
              · simp only [size_set]; omega
              · exact blk_set_ne (blk_set_ne (blk_set_ne (blk_set_ne (blk_set_ne (blk_set_ne hb7 (by omega) _ _) (by omega) _ _) (by omega) _ _) (by omega) _ _) (by omega) _ _) (by omega) _ _
              · exact blk_set (blk_set (blk_set (blk_set (blk_set (blk_set hb6 0 _) 1 _) 2 _) 3 _) 4 _) 5 _
            case measure => simp [intOf]; omega
          · have HL : Hid (leastStep head need (out, true) x = (out, true)) := by unfold Hid; rw [HB.out, if_neg hd]
            clear HB
            go_wp2_with fail
            go_roundw
            case rel => exact ⟨k + 1, out, true, by omega, by go_num, rfl, by rw [HK.out, HL.out], hg6, by omega, hb7, hb6⟩
            case measure => simp [intOf]; omega
    · have hres : res = (out, found) := by rw [HS.out, ← hfold, List.take_of_length_le (by omega)]
      subst hres
      clear hfold HS
      have z0 := blk_cell (l := [_, _, _, _, _, _]) hb0 0 _ rfl
      have z1 := blk_cell (l := [_, _, _, _, _, _]) hb0 1 _ rfl
      have z2 := blk_cell (l := [_, _, _, _, _, _]) hb0 2 _ rfl
      have z3 := blk_cell (l := [_, _, _, _, _, _]) hb0 3 _ rfl
      have z4 := blk_cell (l := [_, _, _, _, _, _]) hb0 4 _ rfl
      have z5 := blk_cell (l := [_, _, _, _, _, _]) hb0 5 _ rfl
      have o0 := blk_cell (l := [_, _, _, _, _, _]) hb1 0 _ rfl
      have o1 := blk_cell (l := [_, _, _, _, _, _]) hb1 1 _ rfl
      have o2 := blk_cell (l := [_, _, _, _, _, _]) hb1 2 _ rfl
      have o3 := blk_cell (l := [_, _, _, _, _, _]) hb1 3 _ rfl
      have o4 := blk_cell (l := [_, _, _, _, _, _]) hb1 4 _ rfl
      have o5 := blk_cell (l := [_, _, _, _, _, _]) hb1 5 _ rfl
      have zf := blk_free hb0
      go_wp2_with fail
      refine bodyPost_ret (v := .tuple #[.agg #[.int .i64 out.set, .int .i64 out.state, .int .i64 out.seq, .int .i64 out.rows, .int .i64 out.bytes, .int .i64 out.readers], .bool found]) ?_ rfl ⟨rfl, ?_⟩
      · have hbF := blk_set (blk_set (blk_set (blk_set (blk_set (blk_set hb0 0 (.int .i64 out.set)) 1 (.int .i64 out.state)) 2 (.int .i64 out.seq)) 3 (.int .i64 out.rows)) 4 (.int .i64 out.bytes)) 5 (.int .i64 out.readers)
        generalize (World.setCell _ _ _) = W at *
        have c0 := blk_cell (l := [_, _, _, _, _, _]) hbF 0 _ rfl
        have c1 := blk_cell (l := [_, _, _, _, _, _]) hbF 1 _ rfl
        have c2 := blk_cell (l := [_, _, _, _, _, _]) hbF 2 _ rfl
        have c3 := blk_cell (l := [_, _, _, _, _, _]) hbF 3 _ rfl
        have c4 := blk_cell (l := [_, _, _, _, _, _]) hbF 4 _ rfl
        have c5 := blk_cell (l := [_, _, _, _, _, _]) hbF 5 _ rfl
        simp [results, Tryz.results44, go_sem, c0, c1, c2, c3, c4, c5]
      · exact gr_set (gr_set (gr_set (gr_set (gr_set (gr_set hg (by simp) _) (by simp) _) (by simp) _) (by simp) _) (by simp) _) (by simp) _
end Go.Proofs.YtoilgmdfbibniaaGreatDoor
