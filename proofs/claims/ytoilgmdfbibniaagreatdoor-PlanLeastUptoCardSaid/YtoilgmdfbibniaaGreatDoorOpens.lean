/- PlanLeast's arguments, opened. -/
import Derived.Test.YtoilgmdfbibniaaGreatDoorRows
import Derived.Test.YtoilgmdfbibniaaGreatDoorLeast
import Derived.ProofKit
import Derived.Deep.Fields
import Derived.Deep.Slices
import Derived.Lib.SmallJoins
set_option linter.unusedSimpArgs false
set_option linter.unusedVariables false
set_option maxRecDepth 100000
namespace Go.Proofs.YtoilgmdfbibniaaGreatDoor
open Go Go.RowKit Go.Deep

section
variable {H : Type} {enc : TypeId × Value → H} {W : World} {base : Nat} {spare : Nat → Bool} {held : Bool}

theorem bulk_one (d : DataW H) : 1 ≤ Rows.uptoBulk d := by
  cases d with
  | lit l => cases l <;> simp [Rows.uptoBulk]
  | nil => simp [Rows.uptoBulk]
  | ptr d => simp [Rows.uptoBulk]
  | slice elems spare => simp [Rows.uptoBulk]
  | agg parts => simp [Rows.uptoBulk]
  | iface t d => simp [Rows.uptoBulk]
  | map entries => simp [Rows.uptoBulk]
  | held h => simp [Rows.uptoBulk]
theorem bulk_part {d : DataW H} {l : List (DataW H)} (h : d ∈ l) : Rows.uptoBulk d ≤ Rows.uptoBulkAll l := by
  induction l with
  | nil => cases h
  | cons x r ih =>
    simp only [Rows.uptoBulkAll]
    cases List.mem_cons.1 h with
    | inl e => subst e; omega
    | inr e => have := ih e; omega
theorem bulk_len (l : List (DataW H)) : l.length ≤ Rows.uptoBulkAll l := by
  induction l with
  | nil => simp [Rows.uptoBulkAll]
  | cons x r ih => have := bulk_one x; simp only [Rows.uptoBulkAll, List.length_cons]; omega

/-- the test behind a bound query's pointer -/
theorem testR_of : ∀ (N fuel : Nat) (v : Value) (x : DataW H × List MemPlace), Rows.uptoBulk x.1 ≤ N → DataW.trod enc Tryz.prog W base spare held fuel 24 [v] = some x → ∃ t, TestR (· < W.heap.size) W v t := by
  intro N
  induction N with
  | zero => intro fuel v x hb _; have := bulk_one x.1; omega
  | succ N ih =>
    intro fuel v x hb h
    rcases open_ptr_fields Tryz.underlying24 Tryz.underlying144 (hone_of (by kernel_rfl)) (by kernel_rfl) (by decide) h with ⟨hv, rfl⟩ | ⟨b, o, n, V, Y, hv, hbase, rfl, hf⟩
    · exact ⟨.nil, by simpa [TestR] using hv⟩
    · obtain rfl : v = .pointer (some ⟨b, o, none⟩) := by simpa using hv
      obtain ⟨c0, t0⟩ := hf 0 _ rfl
      obtain ⟨c1, t1⟩ := hf 1 _ rfl
      obtain ⟨c2, t2⟩ := hf 2 _ rfl
      obtain ⟨c3, t3⟩ := hf 3 _ rfl
      obtain ⟨c4, t4⟩ := hf 4 _ rfl
      obtain ⟨k, hk, -, -⟩ := DataW.trod_int Tryz.underlying3 t0
      obtain ⟨m, hm, -⟩ := DataW.trod_bool Tryz.underlying4 t3
      obtain ⟨i, hi, -, -⟩ := DataW.trod_int Tryz.underlying3 t4
      have hk' : V 0 = .int .i64 k := by simpa using hk
      have hm' : V 3 = .bool m := by simpa using hm
      have hi' : V 4 = .int .i64 i := by simpa using hi
      rw [hk'] at c0
      rw [hm'] at c3
      rw [hi'] at c4
      have hb' : ∀ j, j < 8 → Rows.uptoBulk (Y j).1 ≤ N := fun j hj => by
        have h2 : Rows.uptoBulk (Y j).1 ≤ Rows.uptoBulkAll ((List.range 8).map fun i => (Y i).1) := bulk_part (List.mem_map.2 ⟨j, List.mem_range.2 hj, rfl⟩)
        simp only [Rows.uptoBulk] at hb
        have h3 : Rows.uptoBulkAll ((List.range 8).map fun i => (Y i).1) + 1 + 1 ≤ N + 1 := hb
        omega
      obtain ⟨tl, hl⟩ := ih n (V 1) (Y 1) (hb' 1 (by decide)) t1
      obtain ⟨tr, hr⟩ := ih n (V 2) (Y 2) (hb' 2 (by decide)) t2
      exact ⟨.node k tl tr m i, b, o, V 1, V 2, rfl, World.block_lt_of_cell? W _ c0, c0, c1, c2, c3, c4, hl, hr⟩

theorem add_none (b o i : Nat) : (⟨b, o, none⟩ : Addr).add i = ⟨b, o + i, none⟩ := by
  unfold Addr.add
  split
  · rename_i h; simp_all
  · rfl
theorem addr_plain {a : Addr} {v : Value} (h : W.cell? (a.add 0) = some v) : a = ⟨a.block, a.off, none⟩ := by
  obtain ⟨b, o, s⟩ := a
  have h' : W.cell? ⟨b, o, s⟩ = some v := by simpa [Addr.add] using h
  have : s = none := World.cell?_spot h'
  subst this
  rfl
/-- a slice of numbers -/
theorem intsR_of {fuel : Nat} {v : Value} {x : DataW H × List MemPlace} (h : DataW.trod enc Tryz.prog W base spare held fuel 25 [v] = some x) : ∃ a c l, v = .slice a (l : List Int).length c ∧ IntsR (· < W.heap.size) W v l := by
  rcases Go.ChangeShapes.open_ints Tryz.underlying25 Tryz.underlying3 (by kernel_rfl) h with ⟨hv, -⟩ | ⟨a, len, cap, zs, hv, -, hlc, hcm, hlen, -, hcell, -⟩
  · obtain rfl : v = .slice none 0 0 := by simpa using hv
    exact ⟨none, 0, [], rfl, Rd.nil _ _⟩
  · obtain rfl : v = .slice (some a) len cap := by simpa using hv
    have hle : len ≤ zs.length := by rw [hlen]; split <;> omega
    refine ⟨some a, cap, zs.take len, by rw [List.length_take, Nat.min_eq_left hle], ?_⟩
    have hl : (zs.take len).length = len := by rw [List.length_take, Nat.min_eq_left hle]
    unfold IntsR
    rw [hl]
    refine ⟨some a, cap, rfl, hlc, hcm, ?_⟩
    by_cases h0 : len = 0
    · exact .inl (by subst h0; simp)
    · have hc0 := hcell 0 (by omega)
      have ha := addr_plain hc0
      have hblk := World.block_lt_of_cell? W _ hc0
      refine .inr ⟨a.block, a.off, by rw [← ha], by simpa [Addr.add] using hblk, fun j u hj => ?_⟩
      rw [List.getElem?_map] at hj
      obtain ⟨z, hz, rfl⟩ := Option.map_eq_some_iff.1 hj
      have hjl : j < len := by
        have := (List.getElem?_eq_some_iff.1 hz).1
        omega
      have hc := hcell j (by omega)
      rw [ha] at hc
      rw [List.getElem?_take, if_pos hjl] at hz
      have : zs.getD j 0 = z := by simp [List.getD, hz]
      rw [this] at hc
      rw [add_none] at hc
      exact hc

/-- six numbers in a row -/
theorem vi_of {fuel : Nat} {cs : List Value} {x : DataW H × List MemPlace} (h : DataW.trod enc Tryz.prog W base spare held fuel 32 cs = some x) : ∃ y : VI, cs = y.cells := by
  obtain ⟨xs, n, _, rfl, hl, hlen, hf⟩ := DataW.trod_struct Tryz.underlying32 h
  have hl6 : cs.length = 6 := hl.trans (by kernel_rfl)
  have hlx : xs.length = 6 := hlen
  match cs, hl6 with
  | [a0, a1, a2, a3, a4, a5], _ =>
    match xs, hlx with
    | [x0, x1, x2, x3, x4, x5], _ =>
      have e0 := hf 0 _ rfl
      have e1 := hf 1 _ rfl
      have e2 := hf 2 _ rfl
      have e3 := hf 3 _ rfl
      have e4 := hf 4 _ rfl
      have e5 := hf 5 _ rfl
      have hc : Tryz.prog.cellsOf 3 = 1 := by kernel_rfl
      simp [hc] at e0 e1 e2 e3 e4 e5
      obtain ⟨n0, h0, -, -⟩ := DataW.trod_int Tryz.underlying3 e0
      obtain ⟨n1, h1, -, -⟩ := DataW.trod_int Tryz.underlying3 e1
      obtain ⟨n2, h2, -, -⟩ := DataW.trod_int Tryz.underlying3 e2
      obtain ⟨n3, h3, -, -⟩ := DataW.trod_int Tryz.underlying3 e3
      obtain ⟨n4, h4, -, -⟩ := DataW.trod_int Tryz.underlying3 e4
      obtain ⟨n5, h5, -, -⟩ := DataW.trod_int Tryz.underlying3 e5
      simp at h0 h1 h2 h3 h4 h5
      subst h0 h1 h2 h3 h4 h5
      exact ⟨⟨n0, n1, n2, n3, n4, n5⟩, rfl⟩
theorem build_vis {Q : Nat → VI → Prop} : ∀ n : Nat, (∀ i, i < n → ∃ y, Q i y) → ∃ l : List VI, l.length = n ∧ ∀ i y, l[i]? = some y → Q i y
  | 0, _ => ⟨[], rfl, fun i y h => by simp at h⟩
  | n + 1, h => by
    obtain ⟨l, hl, hq⟩ := build_vis n (fun i hi => h i (by omega))
    obtain ⟨y, hy⟩ := h n (by omega)
    refine ⟨l ++ [y], by simp [hl], fun i z hz => ?_⟩
    rcases Nat.lt_or_ge i l.length with hi | hi
    · rw [List.getElem?_append_left hi] at hz
      exact hq i z hz
    · rw [List.getElem?_append_right hi] at hz
      have h0 : i - l.length = 0 := by
        have := (List.getElem?_eq_some_iff.1 hz).1
        simp at this; omega
      rw [h0] at hz
      obtain rfl : y = z := by simpa using hz
      rw [show i = n by omega]; exact hy
theorem flat_of {l : List VI} {j : Nat} {u : Value} (h : (l.flatMap VI.cells)[j]? = some u) : ∃ i r y, j = i * 6 + r ∧ r < 6 ∧ l[i]? = some y ∧ y.cells[r]? = some u := by
  induction l generalizing j with
  | nil => simp at h
  | cons z l ih =>
    rw [List.flatMap_cons] at h
    have hz : z.cells.length = 6 := rfl
    rcases Nat.lt_or_ge j 6 with hj | hj
    · rw [List.getElem?_append_left (by omega)] at h
      exact ⟨0, j, z, by omega, hj, rfl, h⟩
    · rw [List.getElem?_append_right (by omega), hz] at h
      obtain ⟨i, r, y, e, hr, hi, hy⟩ := ih h
      exact ⟨i + 1, r, y, by omega, hr, by simpa using hi, hy⟩
/-- a slice of views -/
theorem visR_of {fuel : Nat} {v : Value} {x : DataW H × List MemPlace} (h : DataW.trod enc Tryz.prog W base spare held fuel 28 [v] = some x) : ∃ a c l, v = .slice a (l : List VI).length c ∧ VIsR (· < W.heap.size) W v l ∧ l.length ≤ Rows.uptoBulk x.1 := by
  rcases open_slice Tryz.underlying28 h with ⟨hv, rfl⟩ | ⟨a, len, cap, m, n, D, Pl, hv, -, hlc, hcm, hm, rfl, hel⟩
  · obtain rfl : v = .slice none 0 0 := by simpa using hv
    exact ⟨none, 0, [], rfl, Rd.nil _ _, by simp⟩
  · obtain rfl : v = .slice (some a) len cap := by simpa using hv
    have hle : len ≤ m := by rw [hm]; split <;> omega
    have hc6 : Tryz.prog.cellsOf 32 = 6 := by kernel_rfl
    rw [hc6] at hel
    obtain ⟨l, hl, hq⟩ := build_vis (Q := fun i y => ∀ r, r < 6 → W.cell? ((a.add (i * 6)).add r) = y.cells[r]?) len (fun i hi => by
      obtain ⟨cs', hcs, ht⟩ := hel i (by omega)
      obtain ⟨y, rfl⟩ := vi_of ht
      exact ⟨y, fun r hr => (World.cells?_some hcs).2.2 r hr⟩)
    refine ⟨some a, cap, l, by rw [hl], ?_, ?_⟩
    · unfold VIsR
      rw [hl]
      refine ⟨some a, cap, rfl, hlc, hcm, ?_⟩
      by_cases h0 : len = 0
      · exact .inl (by have : l = [] := List.eq_nil_of_length_eq_zero (by omega); subst this; rfl)
      · obtain ⟨y0, hy0⟩ : ∃ y, l[0]? = some y := ⟨l[0]'(by omega), List.getElem?_eq_getElem _⟩
        have hc0 := hq 0 y0 hy0 0 (by decide)
        have hc0' : W.cell? ((a.add (0 * 6)).add 0) = some (.int .i64 y0.set) := hc0
        have ha : a = ⟨a.block, a.off, none⟩ := addr_plain (v := .int .i64 y0.set) (by simpa [Addr.add] using hc0')
        have hblk := World.block_lt_of_cell? W _ hc0'
        refine .inr ⟨a.block, a.off, by rw [← ha], by rw [ha] at hblk; simpa [Addr.add] using hblk, fun j u hj => ?_⟩
        obtain ⟨i, r, y, rfl, hr, hi, hy⟩ := flat_of hj
        have hc := hq i y hi r hr
        rw [hy, ha, add_none, add_none, Nat.add_assoc] at hc
        exact hc
    · simp only [Rows.uptoBulk]
      have := bulk_len ((List.range len).map D)
      rw [List.length_map, List.length_range] at this
      omega
end
end Go.Proofs.YtoilgmdfbibniaaGreatDoor
