/- bind.Bind over the laws' schema. -/
import Derived.Test.YtoilgmdfbibniaaGreatDoorCheck
import Derived.Test.YtoilgmdfbibniaaGreatDoorExpand
import Derived.Test.YtoilgmdfbibniaaGreatDoorHeld
set_option linter.unusedSimpArgs false
set_option linter.unusedVariables false
set_option maxRecDepth 20000
namespace Go.Proofs.YtoilgmdfbibniaaGreatDoor
open Go Go.RowKit

/-- 'append(v, y)' of one element, which lies in the newest block, its number spelt otherwise -/
theorem app1s {P : Program} {ops : Array Oper} {rest : List Oper} {o : Oper} {a : Act} {Q : Exit → Act → World → Prop} {W : World} (hgd : o.guard = none) (s x : Operand) (t e : TypeId) (ho : o.op = .call { callee := .builtin .append, args := #[s, x], argTypes := #[t, t] })
    (ht : P.underlying t = some (.slice e)) (z : Value) (size bytes : Nat) (hinfo : (P.info? e).map (fun i => (i.zero, i.size, i.bytes)) = some (some z, size, bytes)) (hzs : z.cells.size = size) (hsz : 0 < size)
    {base : Nat} {v : Value} {n : Nat} {xs : List Value} (hown : W.ownsRow base e size v n xs) (ys : List Value) (N : Nat) (hN : N = W.heap.size) (hs : a.eval s = v) (hx : a.eval x = .slice (some ⟨N, 0, none⟩) 1 1) (hy : ys.length = size) (h1 : ∀ u ∈ ys, u.oneCell' = true)
    (hbase : base ≤ W.heap.size) (hl : (n + 1) * bytes ≤ 140737488355328) (h63 : n + 1 ≤ maxLen)
    (h : ∀ v1 w1, w1.ownsRow base e size v1 (n + 1) (xs ++ ys) → W.grownBy w1 v.ownBlock → (v1.ownBlock = v.ownBlock ∨ ∃ b, v1.ownBlock = some b ∧ W.heap.size ≤ b) → v1 ≠ .slice none 0 0 → wpList P ops Q rest (a.put o.dst v1) w1) :
    wpList P ops Q (o :: rest) a (W.alloc (.cells ys.toArray e)) := by
  subst hN
  exact app1 hgd s x t e ho ht z size bytes hinfo hzs hsz hown ys hs hx hy h1 hbase hl h63 h

theorem Rd.both {F : Nat → Prop} {w : World} {v : Value} {n : Nat} {cs : List Value} (h : Rd F w v n cs) : Rd (fun k => F k ∧ k < w.heap.size) w v n cs := by
  obtain ⟨a, c, hv, hn, hm, h⟩ := h
  refine ⟨a, c, hv, hn, hm, ?_⟩
  rcases h with h | ⟨g, o, ha, hf, h⟩
  · exact .inl h
  · cases cs with
    | nil => exact .inl rfl
    | cons x cs => exact .inr ⟨g, o, ha, ⟨hf, World.block_lt_of_cell? w _ (h 0 x rfl)⟩, h⟩
theorem infoPick : (Tryz.prog.info? 83).map (fun i => (i.zero, i.size, i.bytes)) = some (some (.agg #[.int .i64 0, .int .i64 0]), 2, 16) := by kernel_rfl
def pickC (y : ItemQ) : List Value := [.int .i64 (pickF cols0 y.1 y.2).1, .int .i64 (pickF cols0 y.1 y.2).2.1]
/-- a union of sets -/
def unionF (l : List Int) : Int := l.foldl (fun o s => bits .or .i64 o s) 0
/-- is the item's dimension in the union? -/
def inUnion (u : Int) (y : ItemQ) : Bool :=
  if (pickF cols0 y.1 y.2).1 = 1 ∨ (pickF cols0 y.1 y.2).1 = 6 then !(bits .and .i64 u (ofI [(pickF cols0 y.1 y.2).2.1]) == 0) else true
structure BindOk (items : List ItemQ) (table : ByteArray) (grouped : Bool) (groups : List GroupS) (bw wok : Bool) (ownF : GroupS → List Int) : Prop where
  right : rightB items table grouped groups bw = true
  tab : table = factsB
  its : ∀ y ∈ items, (pickF cols0 y.1 y.2).2.2 = 0
  wh : wok = true
  dims : ∀ g ∈ groups, dimsF cols0 (g.2.1 ++ g.2.2.flatten) = 0
  exp : (expandF dimsL groups ownF).2 = 0
  pick : ∀ y ∈ items, inUnion (unionF (expandF dimsL groups ownF).1) y = true
theorem right_items {items : List ItemQ} {table : ByteArray} {grouped : Bool} {groups : List GroupS} {bw : Bool} (h : rightB items table grouped groups bw = true) : items.length ≤ 16 ∧ groups.length ≤ 16 ∧ ∀ y ∈ items, y.2.size ≤ 32 := by
  simp [rightB, headB] at h
  obtain ⟨⟨⟨⟨⟨⟨⟨-, -⟩, h1⟩, h2⟩, -⟩, h3⟩, -⟩, -⟩ := h
  refine ⟨h1, h2, fun y hy => ?_⟩
  have h4 := h3 y.1 y.2 hy
  simp [itemB] at h4
  obtain ⟨⟨-, h5⟩, h6⟩ := h4
  rcases h6 with h6 | h6
  · have : y.2.toList.isEmpty = true := by rw [← h5]; simp [h6]
    have := (toList_empty y.2).1 this
    omega
  · exact isNameB_size h6
/-- what the loop over the items keeps -/
structure BSt (w : World) (ad am ai ag : Option Addr) (cd cm ci ni ng cg : Nat) (table : ByteArray) (grouped : Bool) (pw : Option Addr) (b T : Nat) (vp vn : Value) (pt : Option Addr) (vs : Value) (its : List ItemQ) (kp kn : Nat) (W : World) : Prop where
  gr : w.grownBy W none
  s : W.heap[w.heap.size]? = some (.cells #[.slice ad 3 cd, .slice am 2 cm] 54 (0, 0))
  q : W.heap[w.heap.size + 1]? = some (.cells #[.slice ai ni ci, .string table, .pointer pw, .bool grouped, .slice ag ng cg] 45 (0, 0))
  r : W.heap[w.heap.size + 1 + 1]? = some (.cells #[.slice none 0 0, .slice none 0 0, .pointer none, .slice none 0 0] 27 (0, 0))
  lt : w.heap.size + 1 + 1 < T
  bl : b < T
  bw : w.heap.size ≤ b
  t : W.heap[T]? = some (.cells #[vp, vn, .pointer pt, vs] 27 (0, 0))
  p : W.ownsRow (T + 1) 83 2 vp kp ((its.take kp).flatMap pickC)
  n : ∃ ns, W.ownsRow (T + 1) 9 1 vn kn ns
  m : ColMap W b 5 cols0
theorem own_slice {w : World} {base : Nat} {e : TypeId} {size n : Nat} {v : Value} {xs : List Value} (h : w.ownsRow base e size v n xs) : ∃ a c, v = .slice a n c := by
  rcases h.2 with ⟨rfl, h0⟩ | ⟨g, cap, cur, rfl, _⟩
  · exact ⟨none, 0, by rw [h0]⟩
  · exact ⟨_, _, rfl⟩
theorem own_grow {w w' : World} {base : Nat} {e : TypeId} {size n : Nat} {v : Value} {xs : List Value} (h : w.ownsRow base e size v n xs) (hg : w.grownBy w' none) : w'.ownsRow base e size v n xs := h.kept (row := none) hg (by cases v.ownBlock <;> simp)
theorem own_keep {w w' : World} {base : Nat} {e : TypeId} {size n : Nat} {v : Value} {xs : List Value} {r : Option Nat} (h : w.ownsRow base e size v n xs) (hg : w.grownBy w' r) (hr : ∀ b, r = some b → tyOf w b ≠ some e) : w'.ownsRow base e size v n xs := by
  refine h.kept hg ?_
  cases hb : v.ownBlock with
  | none => exact .inl rfl
  | some b => exact .inr (fun e' => hr b e'.symm (tyOf_own h b hb))
theorem BSt.grow {w : World} {ad am ai ag : Option Addr} {cd cm ci ni ng cg : Nat} {table : ByteArray} {grouped : Bool} {pw : Option Addr} {b T : Nat} {vp vn : Value} {pt : Option Addr} {vs : Value} {its : List ItemQ} {kp kn : Nat} {W W' : World}
    (h : BSt w ad am ai ag cd cm ci ni ng cg table grouped pw b T vp vn pt vs its kp kn W) (hg : W.grownBy W' none) : BSt w ad am ai ag cd cm ci ni ng cg table grouped pw b T vp vn pt vs its kp kn W' := by
  obtain ⟨ns, hn⟩ := h.n
  exact ⟨gr_trans h.gr hg, gr_blk hg h.s (by simp), gr_blk hg h.q (by simp), gr_blk hg h.r (by simp), h.lt, h.bl, h.bw, gr_blk hg h.t (by simp), own_grow h.p hg, ⟨ns, own_grow hn hg⟩, h.m.kept (row := none) hg (by simp)⟩
theorem blk_other {w : World} {g k : Nat} {x : Obj} {t t' : TypeId} (hx : w.heap[k]? = some x) (h1 : tyOf w k = some t) (h2 : tyOf w g = some t') (hne : t ≠ t') : g ≠ k := by
  rintro rfl
  rw [h1] at h2
  exact hne (Option.some.inj h2)
section
variable {w : World} {ad am ai ag : Option Addr} {cd cm ci ni ng cg : Nat} {table : ByteArray} {grouped : Bool} {pw : Option Addr} {b T : Nat} {vp vn : Value} {pt : Option Addr} {vs : Value} {its : List ItemQ} {kp kn : Nat} {W W' : World}
theorem BSt.pushP (h : BSt w ad am ai ag cd cm ci ni ng cg table grouped pw b T vp vn pt vs its kp kn W) {v1 : Value} (hown : W'.ownsRow (T + 1) 83 2 v1 (kp + 1) ((its.take (kp + 1)).flatMap pickC)) (hg : W.grownBy W' vp.ownBlock) :
    BSt w ad am ai ag cd cm ci ni ng cg table grouped pw b T v1 vn pt vs its (kp + 1) kn (W'.setCell ⟨T, 0, none⟩ v1) := by
  have hb := own_base h.p
  have hlt := h.lt
  have hbl := h.bl
  have hne : ∀ k, k ≤ T → some k ≠ vp.ownBlock := fun k hk e => by have := hb k e.symm; omega
  have hgT := gr_setR (p := ⟨T, 0, none⟩) (gr_refl W' (some T)) rfl v1
  obtain ⟨ns, hn⟩ := h.n
  have hn2 := own_keep hn hg (fun b hb' => by rw [tyOf_own h.p b hb']; simp)
  have htT := gr_blk hg h.t (hne T (Nat.le_refl _))
  have hty : ∀ b, some T = some b → tyOf W' b = some 27 := fun b e => by cases e; unfold tyOf; rw [htT]
  exact ⟨gr_set (p := ⟨T, 0, none⟩) (gr_trans' h.gr hg (fun b hb' => by have := hb b hb'; omega)) (by show w.heap.size ≤ T; omega) _,
    blk_set_ne (gr_blk hg h.s (hne _ (by omega))) (by omega) _ _, blk_set_ne (gr_blk hg h.q (hne _ (by omega))) (by omega) _ _, blk_set_ne (gr_blk hg h.r (hne _ (by omega))) (by omega) _ _, hlt, hbl, h.bw, blk_set htT 0 _,
    own_keep hown hgT (fun b e => by rw [hty b e]; simp), ⟨ns, own_keep hn2 hgT (fun b e => by rw [hty b e]; simp)⟩, (h.m.kept hg (hne b (by omega))).kept hgT (by simp; omega)⟩
theorem BSt.pushW (h : BSt w ad am ai ag cd cm ci ni ng cg table grouped pw b T vp vn pt vs its kp kn W) (pt' : Option Addr) : BSt w ad am ai ag cd cm ci ni ng cg table grouped pw b T vp vn pt' vs its kp kn (W.setCell ⟨T, 2, none⟩ (.pointer pt')) := by
  have hlt := h.lt
  have hbl := h.bl
  have hgT := gr_setR (p := ⟨T, 2, none⟩) (gr_refl W (some T)) rfl (.pointer pt')
  obtain ⟨ns, hn⟩ := h.n
  have hty : ∀ b, some T = some b → tyOf W b = some 27 := fun b e => by cases e; unfold tyOf; rw [h.t]
  exact ⟨gr_set (p := ⟨T, 2, none⟩) h.gr (by show w.heap.size ≤ T; omega) _, blk_set_ne h.s (by omega) _ _, blk_set_ne h.q (by omega) _ _, blk_set_ne h.r (by omega) _ _, hlt, hbl, h.bw, blk_set h.t 2 _,
    own_keep h.p hgT (fun b e => by rw [hty b e]; simp), ⟨ns, own_keep hn hgT (fun b e => by rw [hty b e]; simp)⟩, h.m.kept hgT (by simp; omega)⟩
theorem BSt.pushS (h : BSt w ad am ai ag cd cm ci ni ng cg table grouped pw b T vp vn pt vs its kp kn W) (vs' : Value) : BSt w ad am ai ag cd cm ci ni ng cg table grouped pw b T vp vn pt vs' its kp kn (W.setCell ⟨T, 3, none⟩ vs') := by
  have hlt := h.lt
  have hbl := h.bl
  have hgT := gr_setR (p := ⟨T, 3, none⟩) (gr_refl W (some T)) rfl vs'
  obtain ⟨ns, hn⟩ := h.n
  have hty : ∀ b, some T = some b → tyOf W b = some 27 := fun b e => by cases e; unfold tyOf; rw [h.t]
  exact ⟨gr_set (p := ⟨T, 3, none⟩) h.gr (by show w.heap.size ≤ T; omega) _, blk_set_ne h.s (by omega) _ _, blk_set_ne h.q (by omega) _ _, blk_set_ne h.r (by omega) _ _, hlt, hbl, h.bw, blk_set h.t 3 _,
    own_keep h.p hgT (fun b e => by rw [hty b e]; simp), ⟨ns, own_keep hn hgT (fun b e => by rw [hty b e]; simp)⟩, h.m.kept hgT (by simp; omega)⟩
theorem BSt.pushN (h : BSt w ad am ai ag cd cm ci ni ng cg table grouped pw b T vp vn pt vs its kp kn W) {v1 : Value} {ns1 : List Value} (hown : W'.ownsRow (T + 1) 9 1 v1 (kn + 1) ns1) (hg : W.grownBy W' vn.ownBlock) :
    BSt w ad am ai ag cd cm ci ni ng cg table grouped pw b T vp v1 pt vs its kp (kn + 1) (W'.setCell ⟨T, 1, none⟩ v1) := by
  obtain ⟨ns, hn⟩ := h.n
  have hb := own_base hn
  have hlt := h.lt
  have hbl := h.bl
  have hne : ∀ k, k ≤ T → some k ≠ vn.ownBlock := fun k hk e => by have := hb k e.symm; omega
  have hgT := gr_setR (p := ⟨T, 1, none⟩) (gr_refl W' (some T)) rfl v1
  have hp2 := own_keep h.p hg (fun b hb' => by rw [tyOf_own hn b hb']; simp)
  have htT := gr_blk hg h.t (hne T (Nat.le_refl _))
  have hty : ∀ b, some T = some b → tyOf W' b = some 27 := fun b e => by cases e; unfold tyOf; rw [htT]
  exact ⟨gr_set (p := ⟨T, 1, none⟩) (gr_trans' h.gr hg (fun b hb' => by have := hb b hb'; omega)) (by show w.heap.size ≤ T; omega) _,
    blk_set_ne (gr_blk hg h.s (hne _ (by omega))) (by omega) _ _, blk_set_ne (gr_blk hg h.q (hne _ (by omega))) (by omega) _ _, blk_set_ne (gr_blk hg h.r (hne _ (by omega))) (by omega) _ _, hlt, hbl, h.bw, blk_set htT 1 _,
    own_keep hp2 hgT (fun b e => by rw [hty b e]; simp), ⟨ns1, own_keep hown hgT (fun b e => by rw [hty b e]; simp)⟩, (h.m.kept hg (hne b (by omega))).kept hgT (by simp; omega)⟩
end
theorem pickC_len (l : List ItemQ) : (l.flatMap pickC).length = l.length * 2 := by
  induction l with
  | nil => rfl
  | cons y l ih => rw [List.flatMap_cons, List.length_append, ih]; simp [pickC]; omega
theorem pickC_at (l : List ItemQ) : ∀ (k : Nat) (x : ItemQ), l[k]? = some x → (l.flatMap pickC)[k * 2]? = some (.int .i64 (pickF cols0 x.1 x.2).1) ∧ (l.flatMap pickC)[k * 2 + 1]? = some (.int .i64 (pickF cols0 x.1 x.2).2.1) := by
  induction l with
  | nil => intro k x h; simp at h
  | cons y l ih =>
    intro k x h
    cases k with
    | zero => simp at h; subst h; simp [pickC]
    | succ k =>
      have := ih k x (by simpa using h)
      have e : ∀ j, (k + 1) * 2 + j = (k * 2 + j) + 2 := by intro j; omega
      have e0 : (k + 1) * 2 = k * 2 + 2 := by omega
      simp only [e, e0, List.flatMap_cons] at this ⊢
      simpa [pickC] using this
/-- what is read of the picks -/
theorem BSt.pickAt {w : World} {ad am ai ag : Option Addr} {cd cm ci ni ng cg : Nat} {table : ByteArray} {grouped : Bool} {pw : Option Addr} {b T : Nat} {a : Option Addr} {n c : Nat} {vn : Value} {pt : Option Addr} {vs : Value} {its : List ItemQ} {kn : Nat} {W : World}
    (h : BSt w ad am ai ag cd cm ci ni ng cg table grouped pw b T (.slice a n c) vn pt vs its its.length kn W) {k : Nat} (hk : k < its.length) :
    ∃ g o, a = some ⟨g, o, none⟩ ∧ g < W.heap.size ∧ W.cell? ⟨g, o + k * 2, none⟩ = some (.int .i64 (pickF cols0 its[k].1 its[k].2).1) ∧ W.cell? ⟨g, o + k * 2 + 1, none⟩ = some (.int .i64 (pickF cols0 its[k].1 its[k].2).2.1) := by
  have hp := h.p
  rw [List.take_length] at hp
  have hx := pickC_at its k _ (List.getElem?_eq_getElem hk)
  obtain ⟨g, o, ha, -, hgs, hcell⟩ := Rd.at_ (Rd.own hp) (j := k * 2) (by rw [pickC_len]; omega)
  exact ⟨g, o, ha, hgs, hcell _ _ hx.1, by rw [Nat.add_assoc]; exact hcell _ _ hx.2⟩
theorem slice_one {a : Option Addr} {n c : Nat} : (Value.slice a n c).oneCell' = true := rfl
def zeroBound : Value := .agg #[.slice none 0 0, .slice none 0 0, .pointer none, .slice none 0 0]
/-- how Bind ends -/
def BindPost (w : World) (items : List ItemQ) (table : ByteArray) (grouped : Bool) (groups : List GroupS) (bw wok : Bool) (ownF : GroupS → List Int) (RT : Option Addr → World → Prop) (e : Ending) (w' : World) : Prop :=
  w.grownBy w' none ∧ ((¬ BindOk items table grouped groups bw wok ownF ∧ ∃ er : Int, er ≠ 0 ∧ e = .returned (.tuple #[zeroBound, .int .i64 er])) ∨
    (BindOk items table grouped groups bw wok ownF ∧ ∃ ap np cp an nn cn pt vs, e = .returned (.tuple #[.agg #[.slice ap np cp, .slice an nn cn, .pointer pt, vs], .int .i64 0]) ∧ RT pt w' ∧ IntsR (fun k => w.heap.size ≤ k ∧ k < w'.heap.size) w' vs (expandF dimsL groups ownF).1))
/-- what a condition's test is, kept while Bind goes on -/
def KeptB (RT : Option Addr → World → Prop) : Prop := ∀ pt W W' r, RT pt W → W.grownBy W' r → (∀ b, r = some b → tyOf W b = some 27 ∨ tyOf W b = some 83 ∨ tyOf W b = some 9) → RT pt W'

set_option maxHeartbeats 8000000 in
theorem Bind_any {F : Nat → Prop} {items : List ItemQ} {table : ByteArray} {grouped : Bool} {groups : List GroupS} {bw wok : Bool} {ownF : GroupS → List Int} {RT : Option Addr → World → Prop} {vd vm vi vg : Value} {pw : Option Addr} {w : World} (hG : Glob w) (hF : ∀ k, F k → k < w.heap.size)
    (hd : StrsR F w vd dimsL) (hm : StrsR F w vm measL) (hi : ItemsR F w vi items) (hvg : GroupsR F w vg groups) (hcols : ∀ g ∈ groups, g.2.1.length + g.2.2.flatten.length ≤ 100000000 ∧ (∀ s ∈ g.2.1, s.size ≤ maxLen) ∧ ∀ l ∈ g.2.2, ∀ s ∈ l, s.size ≤ maxLen)
    (HW : ∀ W nb, w.grownBy W none → w.heap.size ≤ nb → W.heap[nb]? = some (.cells #[.int .i64 0] 3 (0, 0)) → Calls Tryz.prog 30 #[.pointer pw, .int .i64 1, .func (.func 76) #[] #[.pointer (some ⟨nb, 0, none⟩)]] W fun e w' => e = .returned (.bool bw) ∧ W.grownBy w' (some nb))
    (HT : bw = true → ∀ W b, w.grownBy W none → w.heap.size ≤ b → ColMap W b 5 cols0 → Calls Tryz.prog 37 #[.map (some b), .pointer pw] W fun e w' => W.grownBy w' none ∧ ((wok = false ∧ ∃ er : Int, er ≠ 0 ∧ e = .returned (.tuple #[.pointer none, .int .i64 er])) ∨ (wok = true ∧ ∃ pt, e = .returned (.tuple #[.pointer pt, .int .i64 0]) ∧ RT pt w')))
    (hRT : KeptB RT)
    (HO : ∀ g ∈ groups, ∀ W vc vs, w.grownBy W none → StrsR F W vc g.2.1 → RowsR F W vs g.2.2 → Calls Tryz.prog 93 #[vd, .agg #[.int .i64 (g.1 : Int), vc, vs]] W fun e w' => ∃ u, e = .returned u ∧ repInts W.heap.size w' u (ownF g) ∧ W.grownBy w' none) :
    Calls Tryz.prog 11 #[.agg #[vd, vm], .agg #[vi, .string table, .pointer pw, .bool grouped, vg]] w (BindPost w items table grouped groups bw wok ownF RT) := by
  obtain ⟨ad, cd, rfl, hcd, hmd⟩ := hd.slice
  obtain ⟨am, cm, rfl, hcm, hmm⟩ := hm.slice
  obtain ⟨ai, ci, rfl, hic, him⟩ := hi.slice
  obtain ⟨ag, cg, rfl, hgc, hgm⟩ := hvg.slice
  rw [show dimsL.length = 3 from rfl] at *
  rw [show measL.length = 2 from rfl] at *
  have hg1 := World.grownBy_alloc w (.cells #[.slice ad 3 cd, .slice am 2 cm] 54) none
  have s1 := heap_new w (.cells #[.slice ad 3 cd, .slice am 2 cm] 54) _ rfl
  have hg2 := gr_alloc hg1 (.cells #[.slice ai items.length ci, .string table, .pointer pw, .bool grouped, .slice ag groups.length cg] 45)
  have s2 := heap_old _ (.cells #[.slice ai items.length ci, .string table, .pointer pw, .bool grouped, .slice ag groups.length cg] 45) _ _ s1
  have q2 := heap_new (w.alloc (.cells #[.slice ad 3 cd, .slice am 2 cm] 54)) (.cells #[.slice ai items.length ci, .string table, .pointer pw, .bool grouped, .slice ag groups.length cg] 45) (w.heap.size + 1) (by simp)
  have hg3 := gr_alloc hg2 (.cells #[.slice none 0 0, .slice none 0 0, .pointer none, .slice none 0 0] 27)
  have s3 := heap_old _ (.cells #[.slice none 0 0, .slice none 0 0, .pointer none, .slice none 0 0] 27) _ _ s2
  have q3 := heap_old _ (.cells #[.slice none 0 0, .slice none 0 0, .pointer none, .slice none 0 0] 27) _ _ q2
  have r3 := heap_new ((w.alloc (.cells #[.slice ad 3 cd, .slice am 2 cm] 54)).alloc (.cells #[.slice ai items.length ci, .string table, .pointer pw, .bool grouped, .slice ag groups.length cg] 45)) (.cells #[.slice none 0 0, .slice none 0 0, .pointer none, .slice none 0 0] 27) (w.heap.size + 1 + 1) (by simp)
  have HC := fun W (hg : w.grownBy W none) => Check_0 (F := F) _ _ W (hG.keepN hg) (fun k hk => Nat.lt_of_lt_of_le (hF k hk) hg.size) (hd.keep hg (by simp)) (hm.keep hg (by simp))
  have HR := fun W (hg : w.grownBy W none) => Right_any (bw := bw) (table := table) (grouped := grouped) (pw := pw) (hG.keepN hg) (hi.keep hg (by simp)) (hvg.keep hg (by simp)) (fun W2 nb hg2 hnb h => HW W2 nb (gr_trans hg hg2) (by have := hg.size; omega) h)
  have hBr : Hid (BindOk items table grouped groups bw wok ownF → rightB items table grouped groups bw = true) := fun h => h.right
  have hrbw : rightB items table grouped groups bw = true → bw = true := fun h => by unfold rightB at h; simp at h; exact h.2
  clear hg1 hg2 s1 s2 q2 HW
  go_enter Tryz.func11, Tryz.ntmps11
  go_wp2_with fail
  generalize (((w.alloc _).alloc _).alloc _) = W3 at *
  refine (HC W3 hg3).mono ?_
  rintro e w4 ⟨rfl, hg34⟩
  have hg4 := gr_trans hg3 hg34
  have s4 := gr_blk hg34 s3 (by simp)
  have q4 := gr_blk hg34 q3 (by simp)
  have r4 := gr_blk hg34 r3 (by simp)
  have c0 := blk_cell (l := [_, _, _, _, _]) q4 0 _ rfl
  have c1 := blk_cell (l := [_, _, _, _, _]) q4 1 _ rfl
  have c2 := blk_cell (l := [_, _, _, _, _]) q4 2 _ rfl
  have c3 := blk_cell (l := [_, _, _, _, _]) q4 3 _ rfl
  have c4 := blk_cell (l := [_, _, _, _, _]) q4 4 _ rfl
  have hqs := blk_lt q4
  clear s3 q3 r3 hg3 hg34
  go_wp2_with fail
  refine (HR w4 hg4).mono ?_
  clear HR HC
  rintro e w5 ⟨rfl, hg45⟩
  have hg5 := gr_trans hg4 hg45
  have s5 := gr_blk hg45 s4 (by simp)
  have q5 := gr_blk hg45 q4 (by simp)
  have r5 := gr_blk hg45 r4 (by simp)
  clear c0 c1 c2 c3 c4 s4 q4 r4 hg4 hg45
  cases hrr : rightB items table grouped groups bw
  · have p0 := blk_cell (l := [_, _, _, _]) r5 0 _ rfl
    have p1 := blk_cell (l := [_, _, _, _]) r5 1 _ rfl
    have p2 := blk_cell (l := [_, _, _, _]) r5 2 _ rfl
    have p3 := blk_cell (l := [_, _, _, _]) r5 3 _ rfl
    have pf := blk_free r5
    go_wp2_with fail
    have hbF := blk_set (blk_set (blk_set (blk_set r5 0 (.slice none 0 0)) 1 (.slice none 0 0)) 2 (.pointer none)) 3 (.slice none 0 0)
    have hgF := gr_set (p := ⟨w.heap.size + 1 + 1, 3, none⟩) (gr_set (p := ⟨w.heap.size + 1 + 1, 2, none⟩) (gr_set (p := ⟨w.heap.size + 1 + 1, 1, none⟩) (gr_set (p := ⟨w.heap.size + 1 + 1, 0, none⟩) hg5 (by show w.heap.size ≤ w.heap.size + 1 + 1; omega) (.slice none 0 0)) (by show w.heap.size ≤ w.heap.size + 1 + 1; omega) (.slice none 0 0)) (by show w.heap.size ≤ w.heap.size + 1 + 1; omega) (.pointer none)) (by show w.heap.size ≤ w.heap.size + 1 + 1; omega) (.slice none 0 0)
    generalize (World.setCell (World.setCell (World.setCell (World.setCell _ _ _) _ _) _ _) _ _) = WF at *
    have c0 := blk_cell (l := [_, _, _, _]) hbF 0 _ rfl
    have c1 := blk_cell (l := [_, _, _, _]) hbF 1 _ rfl
    have c2 := blk_cell (l := [_, _, _, _]) hbF 2 _ rfl
    have c3 := blk_cell (l := [_, _, _, _]) hbF 3 _ rfl
    refine bodyPost_ret (v := .tuple #[zeroBound, .int .i64 1]) ?_ rfl ⟨hgF, Or.inl ⟨fun h => ?_, 1, by decide, rfl⟩⟩
    · simp [results, Tryz.results11, go_sem, c0, c1, c2, c3, zeroBound]
    rw [hBr.out h] at hrr; cases hrr
  · have hbw := hrbw hrr
    have c1 := blk_cell (l := [_, _, _, _, _]) q5 1 _ rfl
    have hqs := blk_lt q5
    clear hBr hrbw
    by_cases ht : table = factsB
    · subst ht
      have hit := right_items hrr
      have hi16 := hit.1
      have hg16 := hit.2.1
      have hds5 := hd.keep hg5 (by simp)
      have s0 := blk_cell (l := [_, _]) s5 0 _ rfl
      have s1' := blk_cell (l := [_, _]) s5 1 _ rfl
      have hss := blk_lt s5
      have HL := columns_any F dimsL measL (.slice ad 3 cd) (.slice am 2 cm) w5 (by decide) (by decide) (by decide) (by decide) (hd.keep hg5 (by simp)) (hm.keep hg5 (by simp))
      go_wp2_with fail
      refine HL.mono ?_
      clear HL
      rintro e w6 ⟨b, rfl, hbl, hmap, hg56⟩
      have hg6 := gr_trans hg5 hg56
      have s6 := gr_blk hg56 s5 (by simp)
      have q6 := gr_blk hg56 q5 (by simp)
      have r6 := gr_blk hg56 r5 (by simp)
      have hmap : ColMap w6 b 5 cols0 := hmap
      have hb6 := hmap.lt
      have hr6 := blk_lt r6
      have hbw6 : w.heap.size ≤ b := by have := hg5.size; omega
      clear s0 s1' hss hds5 c1 hqs s5 q5 r5 hg56 hg5 hbl
      have hga := World.grownBy_alloc w6 (.cells #[.slice none 0 0, .slice none 0 0, .pointer none, .slice none 0 0] 27) none
      have hst : BSt w ad am ai ag cd cm ci items.length groups.length cg factsB grouped pw b w6.heap.size (.slice none 0 0) (.slice none 0 0) none (.slice none 0 0) items 0 0 (w6.alloc (.cells #[.slice none 0 0, .slice none 0 0, .pointer none, .slice none 0 0] 27)) :=
        ⟨gr_trans hg6 hga, heap_old _ _ _ _ s6, heap_old _ _ _ _ q6, heap_old _ _ _ _ r6, hr6, hb6, hbw6, heap_new _ _ _ rfl, World.ownsRow_nil _ _ _ _, ⟨[], World.ownsRow_nil _ _ _ _⟩, hmap.kept (row := none) hga (by simp)⟩
      have e0 := blk_cell (l := [_, _, _, _, _]) q6 0 _ rfl
      have hqs6 := blk_lt q6
      clear hga s6 r6 hmap hg6 hb6 hr6 hbw6
      go_wp2_with fail
      clear e0 hqs6 q6
      generalize (w6.alloc _) = W7 at *
      generalize w6.heap.size = T at *
      go_loopw [41] (fun i wr => ∃ (k : Nat) (vp vn : Value), k ≤ items.length ∧ i = .int .i64 k ∧ Hid (∀ y ∈ items.take k, (pickF cols0 y.1 y.2).2.2 = 0) ∧ BSt w ad am ai ag cd cm ci items.length groups.length cg factsB grouped pw b T vp vn none (.slice none 0 0) items k k wr) (fun i _ => items.length - (intOf i).toNat)
      case atStart => exact ⟨0, _, _, Nat.zero_le _, rfl, fun y hy => by simp at hy, hst⟩
      case round =>
        clear hst
        obtain ⟨k, vp, vn, hk, rfl, HI, hst⟩ := hrel
        by_cases hlt : k < items.length
        · obtain ⟨g, o, rfl, hgs, c0, c1⟩ := (hi.keep hst.gr (by simp)).at_ hlt
          have hsz := hit.2.2 items[k] (List.getElem_mem hlt)
          have HIn : (pickF cols0 items[k].1 items[k].2).2.2 = 0 → Hid (∀ y ∈ items.take (k + 1), (pickF cols0 y.1 y.2).2.2 = 0) := fun h0 y hy => by
            rw [List.take_succ_eq_append_getElem hlt, List.mem_append] at hy
            rcases hy with hy | hy
            · exact HI.out y hy
            · simp at hy; subst hy; exact h0
          have HBad : (pickF cols0 items[k].1 items[k].2).2.2 ≠ 0 → Hid (¬ BindOk items factsB grouped groups bw wok ownF) := fun h0 h => h0 (h.its _ (List.getElem_mem hlt))
          have HPC : Hid ((items.take (k + 1)).flatMap pickC = (items.take k).flatMap pickC ++ [.int .i64 (pickF cols0 items[k].1 items[k].2).1, .int .i64 (pickF cols0 items[k].1 items[k].2).2.1]) := by
            unfold Hid; rw [List.take_succ_eq_append_getElem hlt, List.flatMap_append]; simp [pickC]
          have hga := World.grownBy_alloc wr (.cells #[.int .i64 (items[k].1 : Int), .string items[k].2] 81) none
          have i1 := heap_new wr (.cells #[.int .i64 (items[k].1 : Int), .string items[k].2] 81) _ rfl
          have hst1 := hst.grow hga
          have HIt := item_bind cols0 b 5 (items[k].1 : Int) items[k].2 _ (by unfold maxLen; omega) hst1.m
          have HNm := fun W (hg : w.grownBy W none) => name_bind items[k].1 items[k].2 W (hG.keepN hg)
          clear hst hga HI hi hvg HO HT
          generalize pickF cols0 items[k].1 items[k].2 = pk at *
          obtain ⟨pk1, pk2, er⟩ := pk
          simp only at HIn HBad HPC HIt
          generalize items[k] = y at *
          obtain ⟨y1, y2⟩ := y
          simp only at c0 c1 i1 hst1 HIt HNm hsz
          go_wp2_with fail
          refine HIt.mono ?_
          clear HIt
          rintro e w2 ⟨rfl, hg2⟩
          have hst2 := hst1.grow hg2
          have i2 := gr_blk hg2 i1 (by simp)
          clear hst1 i1 hg2 c0 c1
          by_cases her : er = 0
          · subst her
            have HI2 := HIn rfl
            clear HIn HBad
            have hga := World.grownBy_alloc w2 (.cells #[.int .i64 pk1, .int .i64 pk2] 83) none
            have hst3 := hst2.grow hga
            have i3 := gr_blk hga i2 (by simp)
            have hgs2 := blk_lt hst2.t
            have t0 := blk_cell (l := [_, _, _, _]) hst2.t 0 _ rfl
            obtain ⟨av, cv, rfl⟩ := own_slice hst2.p
            have hbase := hst2.gr.size
            clear hst2 i2 hga
            have hvt := tyOf_own hst3.p
            have hpo := hst3.p
            have hTb := blk_lt hst3.t
            go_wp2_with (at_builtin; refine app1s rfl _ _ 22 83 rfl Tryz.underlying22 (.agg #[.int .i64 0, .int .i64 0]) 2 16 infoPick rfl (by decide) hpo [.int .i64 pk1, .int .i64 pk2] (w2.heap.size + 1) (by simp) rfl rfl rfl (by intro u hu; simp at hu; rcases hu with rfl | rfl <;> rfl) (by omega) (by omega) (by unfold maxLen; omega) ?_)
            intro v4 w4 hown4 hg4 _ hne4
            rw [← HPC.out] at hown4
            have hst4 := hst3.pushP hown4 hg4
            have hit3 : tyOf (w2.alloc (.cells #[.int .i64 pk1, .int .i64 pk2] 83)) wr.heap.size = some 81 := by unfold tyOf; rw [i3]
            have i4 := gr_blk hg4 i3 (fun e => by rw [hvt _ e.symm] at hit3; cases hit3)
            have ht4 := gr_blk hg4 hst3.t (fun e => by have := own_base hst3.p _ e.symm; omega)
            have p0 := blk_cell (l := [_, _, _, _]) ht4 0 _ rfl
            have pf := blk_free ht4
            have hTs := blk_lt ht4
            have hTn : T ≠ wr.heap.size := fun e => by rw [e] at ht4; rw [i4] at ht4; cases ht4
            have i5 := blk_set_ne i4 (b' := T) (Ne.symm hTn) 0 v4
            obtain ⟨g4, c4, rfl⟩ : ∃ g c, v4 = .slice (some ⟨g, 0, none⟩) (k + 1) c := by
              rcases hown4.2 with ⟨h, _⟩ | ⟨g, cap, cur, h, _⟩
              · exact absurd h hne4
              · exact ⟨g, cap, h⟩
            clear hst3 i3 hown4 hg4 hit3 i4 ht4 hvt hpo hTb hgs2 t0 HPC
            go_wp2_with fail
            clear p0 pf
            generalize (World.setCell w4 _ _) = w5 at *
            obtain ⟨ns, hn⟩ := hst4.n
            obtain ⟨an, cn, rfl⟩ := own_slice hn
            have t1 := blk_cell (l := [_, _, _, _]) hst4.t 1 _ rfl
            have x0 := blk_cell (l := [_, _]) i5 0 _ rfl
            have x1 := blk_cell (l := [_, _]) i5 1 _ rfl
            refine head_held 5 (fun W => W.cell? ⟨T, 1, none⟩ = some (.slice an k cn) ∧ W.cell? ⟨wr.heap.size, 0, none⟩ = some (.int .i64 (y1 : Int)) ∧ W.cell? ⟨wr.heap.size, 1, none⟩ = some (.string y2)) (by kernel_rfl) (by kernel_rfl) ?_
            have hst5 := hst4.grow (gr_drew (gr_refl w5 _))
            have hS0 : w5.drew.cell? ⟨T, 1, none⟩ = some (.slice an k cn) ∧ w5.drew.cell? ⟨wr.heap.size, 0, none⟩ = some (.int .i64 (y1 : Int)) ∧ w5.drew.cell? ⟨wr.heap.size, 1, none⟩ = some (.string y2) := ⟨t1, x0, x1⟩
            have hn5 : w5.drew.ownsRow (T + 1) 9 1 (.slice an k cn) k ns := own_grow hn (gr_drew (gr_refl w5 _))
            clear hn t1 x0 x1 i5 hst4
            generalize w5.drew = w5d at *
            refine KG.take 0 (.pointer (some ⟨T, 1, none⟩)) rfl (by omega) (by kernel_rfl) (by kernel_rfl) (fun _ _ _ h => h) hS0 (by kernel_rfl) (fun W hS => ?_) ?_
            · go_simp
            refine KG.take 1 (.slice an k cn) rfl (by omega) (by kernel_rfl) (by kernel_rfl) (fun _ _ _ h => h) hS0 (by kernel_rfl) (fun W hS => ?_) ?_
            · obtain ⟨s0, s1, s2⟩ := hS
              go_simp
            refine KG.take 2 (.agg #[.int .i64 (y1 : Int), .string y2]) rfl (by omega) (by kernel_rfl) (by kernel_rfl) (fun _ _ _ h => h) hS0 (by kernel_rfl) (fun W hS => ?_) ?_
            · obtain ⟨s0, s1, s2⟩ := hS
              go_simp
            refine KG.one 3 rfl (by omega) (by kernel_rfl) (by kernel_rfl) (fun K2 hK2 => ?_)
            have HN1 := HNm w5d hst5.gr
            go_simp
            refine HN1.mono ?_
            clear HN1 HNm
            rintro e w6 ⟨tn, rfl, hg6⟩
            have hst6 := hst5.grow hg6
            have hn6 := own_grow hn5 hg6
            have hS6 : w6.cell? ⟨T, 1, none⟩ = some (.slice an k cn) ∧ w6.cell? ⟨wr.heap.size, 0, none⟩ = some (.int .i64 (y1 : Int)) ∧ w6.cell? ⟨wr.heap.size, 1, none⟩ = some (.string y2) := ⟨gr_cell hg6 hS0.1 (by simp), gr_cell hg6 hS0.2.1 (by simp), gr_cell hg6 hS0.2.2 (by simp)⟩
            refine hK2 _ _ hS6 ?_
            clear hK2 K2 hst5 hn5 hg6 hS0
            refine KG.one 4 rfl (by omega) (by kernel_rfl) (by kernel_rfl) (fun K2 hK2 => ?_)
            go_simp
            have hgb := World.grownBy_alloc w6 (.cells #[.string tn] 9) none
            refine hK2 _ _ ⟨gr_cell hgb hS6.1 (by simp), gr_cell hgb hS6.2.1 (by simp), gr_cell hgb hS6.2.2 (by simp)⟩ ?_
            clear hK2 K2 hS6 hgb
            refine KG.done (by kernel_rfl) ?_
            simp only [List.drop_succ_cons, List.drop_zero]
            have hTb := blk_lt hst6.t
            go_wp2_with (at_builtin; refine app1s rfl _ _ 23 9 rfl Tryz.underlying23 (.string ⟨#[]⟩) 1 16 infoStr rfl (by decide) hn6 [.string tn] (w6.heap.size) rfl rfl rfl rfl (by intro u hu; simp at hu; subst hu; rfl) (by omega) (by omega) (by unfold maxLen; omega) ?_)
            intro v7 w7 hown7 hg7 _ hne7
            have hst7 := hst6.pushN hown7 hg7
            have ht7 := gr_blk hg7 hst6.t (fun e => by have := own_base hn6 _ e.symm; omega)
            have p1 := blk_cell (l := [_, _, _, _]) ht7 1 _ rfl
            have pf := blk_free ht7
            have hTs := blk_lt ht7
            obtain ⟨g7, c7, rfl⟩ : ∃ g c, v7 = .slice (some ⟨g, 0, none⟩) (k + 1) c := by
              rcases hown7.2 with ⟨h, _⟩ | ⟨g, cap, cur, h, _⟩
              · exact absurd h hne7
              · exact ⟨g, cap, h⟩
            clear hst6 hown7 hg7 ht7 hn6 hTb hbase
            go_wp2_with fail
            clear p1 pf
            go_roundw
            case rel => exact ⟨k + 1, _, _, by omega, by go_num, HI2, hst7⟩
            case measure => simp [intOf]; omega
          · have her' : (er != 0) = true := by simpa using her
            have HB := HBad her
            have hr3 := hst2.r
            have hgr3 := hst2.gr
            clear hst2 i2 HIn HBad HPC
            have p0 := blk_cell (l := [_, _, _, _]) hr3 0 _ rfl
            have p1 := blk_cell (l := [_, _, _, _]) hr3 1 _ rfl
            have p2 := blk_cell (l := [_, _, _, _]) hr3 2 _ rfl
            have p3 := blk_cell (l := [_, _, _, _]) hr3 3 _ rfl
            have pf := blk_free hr3
            have hrl9 := blk_lt hr3
            go_wp2_with fail
            have hbF := heap_old _ (.cells #[.int .i64 pk1, .int .i64 pk2] 83) _ _ (blk_set (blk_set (blk_set (blk_set hr3 0 (.slice none 0 0)) 1 (.slice none 0 0)) 2 (.pointer none)) 3 (.slice none 0 0))
            have hgF := gr_alloc (gr_set (p := ⟨w.heap.size + 1 + 1, 3, none⟩) (gr_set (p := ⟨w.heap.size + 1 + 1, 2, none⟩) (gr_set (p := ⟨w.heap.size + 1 + 1, 1, none⟩) (gr_set (p := ⟨w.heap.size + 1 + 1, 0, none⟩) hgr3 (by show w.heap.size ≤ w.heap.size + 1 + 1; omega) (.slice none 0 0)) (by show w.heap.size ≤ w.heap.size + 1 + 1; omega) (.slice none 0 0)) (by show w.heap.size ≤ w.heap.size + 1 + 1; omega) (.pointer none)) (by show w.heap.size ≤ w.heap.size + 1 + 1; omega) (.slice none 0 0)) (.cells #[.int .i64 pk1, .int .i64 pk2] 83)
            generalize (World.alloc (World.setCell (World.setCell (World.setCell (World.setCell _ _ _) _ _) _ _) _ _) _) = WF at *
            have c0 := blk_cell (l := [_, _, _, _]) hbF 0 _ rfl
            have c1 := blk_cell (l := [_, _, _, _]) hbF 1 _ rfl
            have c2 := blk_cell (l := [_, _, _, _]) hbF 2 _ rfl
            have c3 := blk_cell (l := [_, _, _, _]) hbF 3 _ rfl
            refine bodyPost_ret (v := .tuple #[zeroBound, .int .i64 er]) ?_ rfl ⟨hgF, Or.inl ⟨fun h => ?_, er, her, rfl⟩⟩
            · simp [results, Tryz.results11, go_sem, c0, c1, c2, c3, zeroBound]
            exact HB.out h
        · have hkl : k = items.length := by omega
          subst hkl
          rw [List.take_length] at HI
          have hgs := blk_lt hst.q
          have e2 := blk_cell (l := [_, _, _, _, _]) hst.q 2 _ rfl
          have HT1 := HT hbw wr b hst.gr hst.bw hst.m
          clear HT hit hlt hk hi
          go_wp2_with fail
          refine HT1.mono ?_
          clear HT1
          rintro e w2 ⟨hg2, ⟨hwf, er, her, rfl⟩ | ⟨hwt, pt, rfl, hrt⟩⟩
          · have hst2 := hst.grow hg2
            have hr2 := hst2.r
            have hgr2 := hst2.gr
            have her' : (er != 0) = true := by simpa using her
            clear hst hst2 e2 hg2
            have p0 := blk_cell (l := [_, _, _, _]) hr2 0 _ rfl
            have p1 := blk_cell (l := [_, _, _, _]) hr2 1 _ rfl
            have p2 := blk_cell (l := [_, _, _, _]) hr2 2 _ rfl
            have p3 := blk_cell (l := [_, _, _, _]) hr2 3 _ rfl
            have pf := blk_free hr2
            go_wp2_with fail
            have hbF := blk_set (blk_set (blk_set (blk_set hr2 0 (.slice none 0 0)) 1 (.slice none 0 0)) 2 (.pointer none)) 3 (.slice none 0 0)
            have hgF := gr_set (p := ⟨w.heap.size + 1 + 1, 3, none⟩) (gr_set (p := ⟨w.heap.size + 1 + 1, 2, none⟩) (gr_set (p := ⟨w.heap.size + 1 + 1, 1, none⟩) (gr_set (p := ⟨w.heap.size + 1 + 1, 0, none⟩) hgr2 (by show w.heap.size ≤ w.heap.size + 1 + 1; omega) (.slice none 0 0)) (by show w.heap.size ≤ w.heap.size + 1 + 1; omega) (.slice none 0 0)) (by show w.heap.size ≤ w.heap.size + 1 + 1; omega) (.pointer none)) (by show w.heap.size ≤ w.heap.size + 1 + 1; omega) (.slice none 0 0)
            generalize (World.setCell (World.setCell (World.setCell (World.setCell _ _ _) _ _) _ _) _ _) = WF at *
            have c0 := blk_cell (l := [_, _, _, _]) hbF 0 _ rfl
            have c1 := blk_cell (l := [_, _, _, _]) hbF 1 _ rfl
            have c2 := blk_cell (l := [_, _, _, _]) hbF 2 _ rfl
            have c3 := blk_cell (l := [_, _, _, _]) hbF 3 _ rfl
            refine bodyPost_ret (v := .tuple #[zeroBound, .int .i64 er]) ?_ rfl ⟨hgF, Or.inl ⟨fun h => ?_, er, her, rfl⟩⟩
            · simp [results, Tryz.results11, go_sem, c0, c1, c2, c3, zeroBound]
            have := h.wh
            rw [hwf] at this; cases this
          · have hst2 := hst.grow hg2
            clear hst e2 hg2
            have hst3 := hst2.pushW pt
            have ht2 : tyOf w2 T = some 27 := by unfold tyOf; rw [hst2.t]
            have hrt3 := hRT pt w2 (w2.setCell ⟨T, 2, none⟩ (.pointer pt)) (some T) hrt (gr_setR (p := ⟨T, 2, none⟩) (gr_refl w2 _) rfl _) (fun b e => .inl (by cases e; exact ht2))
            have p2 := blk_cell (l := [_, _, _, _]) hst2.t 2 _ rfl
            have pf := blk_free hst2.t
            have hTs := blk_lt hst2.t
            have e4 := blk_cell (l := [_, _, _, _, _]) hst2.q 4 _ rfl
            have hlt2 := hst2.lt
            have hqs2 := blk_lt hst2.q
            clear hst2 hrt ht2
            go_wp2_with fail
            clear p2 pf e4
            generalize (World.setCell w2 _ _) = w3 at *
            go_loopw [85] (fun i wr => ∃ k : Nat, k ≤ groups.length ∧ i = .int .i64 k ∧ Hid (∀ g ∈ groups.take k, dimsF cols0 (g.2.1 ++ g.2.2.flatten) = 0) ∧ BSt w ad am ai ag cd cm ci items.length groups.length cg factsB grouped pw b T vp vn pt (.slice none 0 0) items items.length items.length wr ∧ RT pt wr) (fun i _ => groups.length - (intOf i).toNat)
            case atStart => exact ⟨0, Nat.zero_le _, rfl, fun y hy => by simp at hy, hst3, hrt3⟩
            case round =>
              clear hst3 hrt3 hTs hqs2
              obtain ⟨k, hk, rfl, HD, hst, hrt⟩ := hrel
              by_cases hlt : k < groups.length
              · obtain ⟨g, o, vc, vs, rfl, hgs2, c0, c1, c2, hvc, hvs⟩ := (hvg.keep hst.gr (by simp)).at_ hlt
                obtain ⟨hcl1, hcl2, hcl3⟩ := hcols groups[k] (List.getElem_mem hlt)
                have HDn : dimsF cols0 (groups[k].2.1 ++ groups[k].2.2.flatten) = 0 → Hid (∀ g ∈ groups.take (k + 1), dimsF cols0 (g.2.1 ++ g.2.2.flatten) = 0) := fun h0 y hy => by
                  rw [List.take_succ_eq_append_getElem hlt, List.mem_append] at hy
                  rcases hy with hy | hy
                  · exact HD.out y hy
                  · simp at hy; subst hy; exact h0
                have HBad : dimsF cols0 (groups[k].2.1 ++ groups[k].2.2.flatten) ≠ 0 → Hid (¬ BindOk items factsB grouped groups bw wok ownF) := fun h0 h => h0 (h.dims _ (List.getElem_mem hlt))
                have hsz : ∀ s ∈ groups[k].2.1 ++ groups[k].2.2.flatten, s.size ≤ maxLen := by
                  intro s hs
                  rw [List.mem_append, List.mem_flatten] at hs
                  rcases hs with hs | ⟨l, hl, hs⟩
                  · exact hcl2 s hs
                  · exact hcl3 l hl s hs
                obtain ⟨ac1, cc1, rfl, -, -⟩ := hvc.slice
                obtain ⟨as1, cs1, rfl, -, -⟩ := hvs.slice
                have hga := World.grownBy_alloc wr (.cells #[.int .i64 (groups[k].1 : Int), .slice ac1 groups[k].2.1.length cc1, .slice as1 groups[k].2.2.length cs1] 91) none
                have g1 := heap_new wr (.cells #[.int .i64 (groups[k].1 : Int), .slice ac1 groups[k].2.1.length cc1, .slice as1 groups[k].2.2.length cs1] 91) _ rfl
                have hst1 := hst.grow hga
                have hrt1 := hRT pt _ _ none hrt hga (by simp)
                clear hst hrt HD hcl2 hcl3 HO hcols
                generalize groups[k] = gk at *
                obtain ⟨gk1, gk2, gk3⟩ := gk
                simp only at *
                have x1 := blk_cell (l := [_, _, _]) g1 1 _ rfl
                have x2 := blk_cell (l := [_, _, _]) g1 2 _ rfl
                have hgl := blk_lt g1
                go_wp2_with fail
                generalize (wr.alloc _) = w4 at *
                refine head_held 8 (fun W => W.cell? ⟨wr.heap.size, 1, none⟩ = some (.slice ac1 gk2.length cc1) ∧ W.cell? ⟨wr.heap.size, 2, none⟩ = some (.slice as1 gk3.length cs1)) (by kernel_rfl) (by kernel_rfl) ?_
                have hgd := gr_trans hga (gr_drew (gr_refl w4 none))
                have hst4 := hst1.grow (gr_drew (gr_refl w4 _))
                have hrt4 := hRT pt _ _ none hrt1 (gr_drew (gr_refl w4 none)) (by simp)
                have hS0 : w4.drew.cell? ⟨wr.heap.size, 1, none⟩ = some (.slice ac1 gk2.length cc1) ∧ w4.drew.cell? ⟨wr.heap.size, 2, none⟩ = some (.slice as1 gk3.length cs1) := ⟨x1, x2⟩
                have hvc4 := hvc.keep hgd (by simp)
                have hvs4 := hvs.keep hgd (by simp)
                clear hst1 hrt1 hga g1 x1 x2 hvc hvs hgd hgl
                generalize w4.drew = w5 at *
                have hF5 : ∀ k, F k → k < w5.heap.size := fun k hk => Nat.lt_of_lt_of_le (hF k hk) hst4.gr.size
                refine KG.take 0 (.map (some b)) rfl (by omega) (by kernel_rfl) (by kernel_rfl) (fun _ _ _ h => h) hS0 (by kernel_rfl) (fun W hS => ?_) ?_
                · go_simp
                refine KG.take 1 (.pointer (some ⟨wr.heap.size, 1, none⟩)) rfl (by omega) (by kernel_rfl) (by kernel_rfl) (fun _ _ _ h => h) hS0 (by kernel_rfl) (fun W hS => ?_) ?_
                · go_simp
                refine KG.take 2 (.slice ac1 gk2.length cc1) rfl (by omega) (by kernel_rfl) (by kernel_rfl) (fun _ _ _ h => h) hS0 (by kernel_rfl) (fun W hS => ?_) ?_
                · obtain ⟨s0, s1⟩ := hS
                  go_simp
                refine KG.take 3 (.pointer (some ⟨wr.heap.size, 2, none⟩)) rfl (by omega) (by kernel_rfl) (by kernel_rfl) (fun _ _ _ h => h) hS0 (by kernel_rfl) (fun W hS => ?_) ?_
                · go_simp
                refine KG.take 4 (.slice as1 gk3.length cs1) rfl (by omega) (by kernel_rfl) (by kernel_rfl) (fun _ _ _ h => h) hS0 (by kernel_rfl) (fun W hS => ?_) ?_
                · obtain ⟨s0, s1⟩ := hS
                  go_simp
                refine KG.one 5 rfl (by omega) (by kernel_rfl) (by kernel_rfl) (fun K2 hK2 => ?_)
                have HC1 := Concat_any F gk3 _ w5 hF5 (by omega) hvs4
                go_simp
                refine HC1.mono ?_
                clear HC1
                rintro e w6 ⟨u, rfl, hown6, hg6⟩
                generalize gk3.flatten = fl at *
                have hst6 := hst4.grow hg6
                have hrt6 := hRT pt _ _ none hrt4 hg6 (by simp)
                have hS6 : w6.cell? ⟨wr.heap.size, 1, none⟩ = some (.slice ac1 gk2.length cc1) ∧ w6.cell? ⟨wr.heap.size, 2, none⟩ = some (.slice as1 gk3.length cs1) := ⟨gr_cell hg6 hS0.1 (by simp), gr_cell hg6 hS0.2 (by simp)⟩
                have hvc6 := hvc4.keep hg6 (by simp)
                obtain ⟨au, cu, rfl⟩ := own_slice hown6
                have hu6 : StrsR (· < w6.heap.size) w6 (.slice au fl.length cu) fl := Rd.lt2 (Rd.own hown6)
                refine hK2 _ _ hS6 ?_
                clear hK2 K2 hst4 hrt4 hg6 hS0 hvc4 hvs4 hown6
                refine KG.one 6 rfl (by omega) (by kernel_rfl) (by kernel_rfl) (fun K2 hK2 => ?_)
                go_simp
                have hgb := World.grownBy_alloc w6 (.cells #[.slice ac1 gk2.length cc1, .slice au fl.length cu] 23) none
                have hb6 := heap_new w6 (.cells #[.slice ac1 gk2.length cc1, .slice au fl.length cu] 23) _ rfl
                have hst7 := hst6.grow hgb
                have hrt7 := hRT pt _ _ none hrt6 hgb (by simp)
                have hsz6 := hst6.gr.size
                have hrows : RowsR (· < w6.heap.size + 1) (w6.alloc (.cells #[.slice ac1 gk2.length cc1, .slice au fl.length cu] 23)) (.slice (some ⟨w6.heap.size, 0, none⟩) 2 2) [gk2, fl] := by
                  refine ⟨[.slice ac1 gk2.length cc1, .slice au fl.length cu], rfl, ?_, ⟨_, _, rfl, Nat.le_refl _, by unfold maxLen; omega, .inr ⟨w6.heap.size, 0, rfl, by omega, fun j u hj => by rw [Nat.zero_add]; exact blk_cell (l := [_, _]) hb6 j u hj⟩⟩⟩
                  intro i u y hu hy
                  rcases i with _ | _ | i
                  · simp at hu hy; subst hu hy; exact (hvc6.keep hgb (by simp)).mono (fun k hk => by have := hF k hk; omega)
                  · simp at hu hy; subst hu hy; exact (hu6.keep hgb (by simp)).mono (fun k hk => by have h : k < w6.heap.size := hk; omega)
                  · simp at hu
                refine hK2 _ _ ⟨gr_cell hgb hS6.1 (by simp), gr_cell hgb hS6.2 (by simp)⟩ ?_
                have hS7 : (w6.alloc (.cells #[.slice ac1 gk2.length cc1, .slice au fl.length cu] 23)).cell? ⟨wr.heap.size, 1, none⟩ = some (.slice ac1 gk2.length cc1) ∧ (w6.alloc (.cells #[.slice ac1 gk2.length cc1, .slice au fl.length cu] 23)).cell? ⟨wr.heap.size, 2, none⟩ = some (.slice as1 gk3.length cs1) := ⟨gr_cell hgb hS6.1 (by simp), gr_cell hgb hS6.2 (by simp)⟩
                have HC2 := Concat_any _ [gk2, fl] _ _ (fun k hk => by simpa using hk) (by simp; omega) hrows
                rw [show [gk2, fl].flatten = gk2 ++ fl by simp] at HC2
                clear hK2 K2 hS6 hgb hb6 hst6 hrt6 hrows hu6 hvc6
                generalize (w6.alloc _) = w7 at *
                refine KG.one 7 rfl (by omega) (by kernel_rfl) (by kernel_rfl) (fun K2 hK2 => ?_)
                go_simp
                refine HC2.mono ?_
                clear HC2
                rintro e w8 ⟨u2, rfl, hown8, hg8⟩
                have hst8 := hst7.grow hg8
                have hrt8 := hRT pt _ _ none hrt7 hg8 (by simp)
                refine hK2 _ _ ⟨gr_cell hg8 hS7.1 (by simp), gr_cell hg8 hS7.2 (by simp)⟩ ?_
                clear hK2 K2 hS7 hst7 hrt7 hg8
                refine KG.done (by kernel_rfl) ?_
                simp only [List.drop_succ_cons, List.drop_zero]
                have HDm := dims_bind _ cols0 b 5 (gk2 ++ fl) u2 w8 hsz hst8.m (Rd.own hown8)
                obtain ⟨au2, cu2, rfl⟩ := own_slice hown8
                clear hown8 hsz
                generalize dimsF cols0 (gk2 ++ fl) = er at *
                rw [List.length_append] at HDm
                go_wp2_with fail
                refine HDm.mono ?_
                clear HDm
                rintro e w9 ⟨rfl, hg9⟩
                have hst9 := hst8.grow hg9
                have hrt9 := hRT pt _ _ none hrt8 hg9 (by simp)
                clear hst8 hrt8 hg9
                by_cases her : er = 0
                · have HD2 := HDn her
                  subst her
                  clear HDn HBad
                  go_wp2_with fail
                  go_roundw
                  case rel => exact ⟨k + 1, by omega, by go_num, HD2, hst9, hrt9⟩
                  case measure => simp [intOf]; omega
                · have HB := HBad her
                  have hr9 := hst9.r
                  have hgr9 := hst9.gr
                  have her' : (er != 0) = true := by simpa using her
                  clear HDn HBad hst9
                  have p0 := blk_cell (l := [_, _, _, _]) hr9 0 _ rfl
                  have p1 := blk_cell (l := [_, _, _, _]) hr9 1 _ rfl
                  have p2 := blk_cell (l := [_, _, _, _]) hr9 2 _ rfl
                  have p3 := blk_cell (l := [_, _, _, _]) hr9 3 _ rfl
                  have pf := blk_free hr9
                  go_wp2_with fail
                  have hbF := blk_set (blk_set (blk_set (blk_set hr9 0 (.slice none 0 0)) 1 (.slice none 0 0)) 2 (.pointer none)) 3 (.slice none 0 0)
                  have hgF := gr_set (p := ⟨w.heap.size + 1 + 1, 3, none⟩) (gr_set (p := ⟨w.heap.size + 1 + 1, 2, none⟩) (gr_set (p := ⟨w.heap.size + 1 + 1, 1, none⟩) (gr_set (p := ⟨w.heap.size + 1 + 1, 0, none⟩) hgr9 (by show w.heap.size ≤ w.heap.size + 1 + 1; omega) (.slice none 0 0)) (by show w.heap.size ≤ w.heap.size + 1 + 1; omega) (.slice none 0 0)) (by show w.heap.size ≤ w.heap.size + 1 + 1; omega) (.pointer none)) (by show w.heap.size ≤ w.heap.size + 1 + 1; omega) (.slice none 0 0)
                  generalize (World.setCell (World.setCell (World.setCell (World.setCell _ _ _) _ _) _ _) _ _) = WF at *
                  have c0 := blk_cell (l := [_, _, _, _]) hbF 0 _ rfl
                  have c1 := blk_cell (l := [_, _, _, _]) hbF 1 _ rfl
                  have c2 := blk_cell (l := [_, _, _, _]) hbF 2 _ rfl
                  have c3 := blk_cell (l := [_, _, _, _]) hbF 3 _ rfl
                  refine bodyPost_ret (v := .tuple #[zeroBound, .int .i64 er]) ?_ rfl ⟨hgF, Or.inl ⟨fun h => ?_, er, her, rfl⟩⟩
                  · simp [results, Tryz.results11, go_sem, c0, c1, c2, c3, zeroBound]
                  exact HB.out h
              · have hkl : k = groups.length := by omega
                subst hkl
                rw [List.take_length] at HD
                have hgs := blk_lt hst.q
                have hss := blk_lt hst.s
                have hTs := blk_lt hst.t
                have s0 := blk_cell (l := [_, _]) hst.s 0 _ rfl
                have e4 := blk_cell (l := [_, _, _, _, _]) hst.q 4 _ rfl
                have HE := Expand_any (hd.keep hst.gr (by simp)) (hvg.keep hst.gr (by simp)) (by decide) (by omega) (fun g hg W vc vs hgr h1 h2 => HO g hg W vc vs (gr_trans hst.gr hgr) h1 h2)
                have HOK : Hid ((expandF dimsL groups ownF).2 = 0 → (∀ y ∈ items, inUnion (unionF (expandF dimsL groups ownF).1) y = true) → BindOk items factsB grouped groups bw wok ownF) := fun h1 h2 => ⟨hrr, rfl, HI.out, hwt, HD.out, h1, h2⟩
                have HBX : Hid ((expandF dimsL groups ownF).2 ≠ 0 → ¬ BindOk items factsB grouped groups bw wok ownF) := fun h0 h => h0 h.exp
                have HBP : Hid (∀ y ∈ items, inUnion (unionF (expandF dimsL groups ownF).1) y = false → ¬ BindOk items factsB grouped groups bw wok ownF) := fun y hy h0 h => by
                  have := h.pick y hy
                  rw [h0] at this; cases this
                clear HO hcols hvg hd hm HI HD hk hlt
                obtain ⟨l, er, hex⟩ : ∃ l er, expandF dimsL groups ownF = (l, er) := ⟨_, _, rfl⟩
                have hexH : Hid (expandF dimsL groups ownF = (l, er)) := hex
                rw [hex] at HE HOK HBX HBP
                clear hex
                simp only at HE HOK HBX HBP
                go_wp2_with fail
                refine HE.mono ?_
                clear HE
                rintro e w2 ⟨u, rfl, hiu, hg2⟩
                have hst2 := hst.grow hg2
                have hrt2 := hRT pt _ _ none hrt hg2 (by simp)
                clear s0 e4 hgs hss hTs
                have hTw := blk_lt hst.t
                clear hst hrt hg2
                obtain ⟨au, cu, rfl, hcu, hmu, -⟩ := id hiu
                have hst3 := hst2.pushS (.slice au l.length cu)
                have hgT := gr_setR (p := ⟨T, 3, none⟩) (gr_refl w2 (some T)) rfl (.slice au l.length cu)
                have htT : tyOf w2 T = some 27 := by unfold tyOf; rw [hst2.t]
                have hrt3 := hRT pt _ _ (some T) hrt2 hgT (fun b e => .inl (by cases e; exact htT))
                have hiu3 := Rd.keep hiu hgT (fun k hk e => by cases e; omega)
                have pT3 := blk_cell (l := [_, _, _, _]) hst2.t 3 _ rfl
                have pTf := blk_free hst2.t
                have hTs := blk_lt hst2.t
                clear hrt2 hgT htT hiu
                by_cases her : er = 0
                · subst her
                  replace HOK : Hid ((∀ y ∈ items, inUnion (unionF l) y = true) → BindOk items factsB grouped groups bw wok ownF) := HOK.out rfl
                  have hlr := hst2.lt
                  clear HBX hst2
                  have hml : l.length ≤ 9223372036854775807 := by unfold maxLen at hmu; omega
                  go_wp2_with fail
                  generalize (World.setCell w2 _ _) = w3 at *
                  clear pT3 pTf hTs hcu
                  go_loop [16, 119] (fun o i => ∃ k : Nat, k ≤ l.length ∧ i = .int .i64 k ∧ o = .int .i64 (unionF (l.take k))) (fun _ i => l.length - (intOf i).toNat)
                  case atStart => exact ⟨0, Nat.zero_le _, rfl, rfl⟩
                  case round =>
                    obtain ⟨k, hk, rfl, rfl⟩ := hrel
                    by_cases hlt : k < l.length
                    · obtain ⟨g, o, rfl, -, hgs, hcell⟩ := Rd.at_ hiu3 (j := k) (by simpa using hlt)
                      have hx : w3.cell? ⟨g, o + k, none⟩ = some (.int .i64 l[k]) := hcell k _ (by simp [hlt])
                      have HS : Hid (unionF (l.take (k + 1)) = bits .or .i64 (unionF (l.take k)) l[k]) := by
                        unfold Hid unionF; rw [List.take_succ_eq_append_getElem hlt, List.foldl_append]; rfl
                      generalize l[k] = x at hx HS
                      generalize unionF (l.take k) = y at HS
                      clear hcell hiu3 hst3 hrt3 HOK HBP hexH
                      go_wp2
                      go_round
                      case rel => exact ⟨k + 1, by omega, by go_num, by rw [HS.out]⟩
                      case measure => simp [intOf]; omega
                    · have hkl : k = l.length := by omega
                      subst hkl
                      rw [List.take_length]
                      generalize unionF l = U at *
                      have pT0 := blk_cell (l := [_, _, _, _]) hst3.t 0 _ rfl
                      have hTs := blk_lt hst3.t
                      obtain ⟨avp, cvp, rfl⟩ := own_slice hst3.p
                      obtain ⟨avn, cvn, rfl⟩ : ∃ a c, vn = .slice a items.length c := by obtain ⟨ns, hn⟩ := hst3.n; exact own_slice hn
                      go_wp2_with fail
                      clear pT0 hTs
                      go_loopw [130] (fun i wr => ∃ k : Nat, k ≤ items.length ∧ i = .int .i64 k ∧ Hid (∀ y ∈ items.take k, inUnion U y = true) ∧ w3.grownBy wr none) (fun i _ => items.length - (intOf i).toNat)
                      case atStart => exact ⟨0, Nat.zero_le _, rfl, fun y hy => by simp at hy, gr_refl _ _⟩
                      case round =>
                        obtain ⟨k, hk, rfl, HU, hgr⟩ := hrel
                        by_cases hlt : k < items.length
                        · have hst := hst3.grow hgr
                          obtain ⟨g, o, rfl, hgs, c0, c1⟩ := hst.pickAt hlt
                          have HOn : inUnion U items[k] = true → Hid (∀ y ∈ items.take (k + 1), inUnion U y = true) := fun h0 y hy => by
                            rw [List.take_succ_eq_append_getElem hlt, List.mem_append] at hy
                            rcases hy with hy | hy
                            · exact HU.out y hy
                            · simp at hy; subst hy; exact h0
                          have HBad : inUnion U items[k] = false → Hid (¬ BindOk items factsB grouped groups bw wok ownF) := HBP.out _ (List.getElem_mem hlt)
                          have hin : inUnion U items[k] = if (pickF cols0 items[k].1 items[k].2).1 = 1 ∨ (pickF cols0 items[k].1 items[k].2).1 = 6 then !(bits .and .i64 U (ofI [(pickF cols0 items[k].1 items[k].2).2.1]) == 0) else true := rfl
                          generalize inUnion U items[k] = iu at *
                          generalize pickF cols0 items[k].1 items[k].2 = pk at *
                          obtain ⟨pk1, pk2, pk3⟩ := pk
                          simp only at c0 c1 hin
                          have hga := World.grownBy_alloc wr (.cells #[.int .i64 pk1, .int .i64 pk2] 83) none
                          have hof : IntsR (fun _ => True) ((wr.alloc (.cells #[.int .i64 pk1, .int .i64 pk2] 83)).alloc (.cells #[.int .i64 pk2] 3)) (.slice (some ⟨wr.heap.size + 1, 0, none⟩) 1 1) [pk2] := by
                            have h := Rd.mono (G := fun _ => True) (Rd.lit (wr.alloc (.cells #[.int .i64 pk1, .int .i64 pk2] 83)) [.int .i64 pk2] 3 1 (by unfold maxLen; omega)) (fun _ _ => trivial)
                            rw [show (wr.alloc (.cells #[.int .i64 pk1, .int .i64 pk2] 83)).heap.size = wr.heap.size + 1 by simp] at h
                            exact h
                          have hst9 := (hst.grow hga).grow (World.grownBy_alloc _ (.cells #[.int .i64 pk2] 3) none)
                          have hr9 := hst9.r
                          have hgr9 := hst9.gr
                          have hg9 := gr_alloc (gr_alloc hgr (.cells #[.int .i64 pk1, .int .i64 pk2] 83)) (.cells #[.int .i64 pk2] 3)
                          have hg8 := gr_alloc hgr (.cells #[.int .i64 pk1, .int .i64 pk2] 83)
                          clear hst3 hrt3 hiu3 HOK HBP hexH HU
                          by_cases h1 : pk1 = 1
                          · subst h1
                            rw [if_pos (by omega)] at hin
                            go_wp2_with fail
                            refine (Of_any (fun _ => True) (.slice (some ⟨wr.heap.size + 1, 0, none⟩) 1 1) [pk2] _ hof).mono ?_
                            rintro e w9 ⟨rfl, rfl⟩
                            generalize ((wr.alloc _).alloc _) = w9 at *
                            by_cases hu : (bits .and .i64 U (ofI [pk2]) == 0) = true
                            · have HB := HBad (by rw [hin]; simp [hu])
                              clear HOn HBad hst hof hst9
                              have p0 := blk_cell (l := [_, _, _, _]) hr9 0 _ rfl
                              have p1 := blk_cell (l := [_, _, _, _]) hr9 1 _ rfl
                              have p2 := blk_cell (l := [_, _, _, _]) hr9 2 _ rfl
                              have p3 := blk_cell (l := [_, _, _, _]) hr9 3 _ rfl
                              have pf := blk_free hr9
                              go_wp2_with fail
                              have hbF := blk_set (blk_set (blk_set (blk_set hr9 0 (.slice none 0 0)) 1 (.slice none 0 0)) 2 (.pointer none)) 3 (.slice none 0 0)
                              have hgF := gr_set (p := ⟨w.heap.size + 1 + 1, 3, none⟩) (gr_set (p := ⟨w.heap.size + 1 + 1, 2, none⟩) (gr_set (p := ⟨w.heap.size + 1 + 1, 1, none⟩) (gr_set (p := ⟨w.heap.size + 1 + 1, 0, none⟩) hgr9 (by show w.heap.size ≤ w.heap.size + 1 + 1; omega) (.slice none 0 0)) (by show w.heap.size ≤ w.heap.size + 1 + 1; omega) (.slice none 0 0)) (by show w.heap.size ≤ w.heap.size + 1 + 1; omega) (.pointer none)) (by show w.heap.size ≤ w.heap.size + 1 + 1; omega) (.slice none 0 0)
                              generalize (World.setCell (World.setCell (World.setCell (World.setCell _ _ _) _ _) _ _) _ _) = WF at *
                              have c0 := blk_cell (l := [_, _, _, _]) hbF 0 _ rfl
                              have c1 := blk_cell (l := [_, _, _, _]) hbF 1 _ rfl
                              have c2 := blk_cell (l := [_, _, _, _]) hbF 2 _ rfl
                              have c3 := blk_cell (l := [_, _, _, _]) hbF 3 _ rfl
                              refine bodyPost_ret (v := .tuple #[zeroBound, .int .i64 44]) ?_ rfl ⟨hgF, Or.inl ⟨fun h => ?_, 44, by decide, rfl⟩⟩
                              · simp [results, Tryz.results11, go_sem, c0, c1, c2, c3, zeroBound]
                              exact HB.out (by rw [hbw, hwt]; exact h)
                            · have hu' : (bits .and .i64 U (ofI [pk2]) == 0) = false := by simpa using hu
                              have HO2 := HOn (by rw [hin]; simp [hu'])
                              clear HOn HBad hst hof hst9
                              go_wp2_with fail
                              go_roundw
                              case rel => exact ⟨k + 1, by omega, by go_num, HO2, hg9⟩
                              case measure => simp [intOf]; omega
                          · by_cases h6 : pk1 = 6
                            · subst h6
                              rw [if_pos (by omega)] at hin
                              go_wp2_with fail
                              refine (Of_any (fun _ => True) (.slice (some ⟨wr.heap.size + 1, 0, none⟩) 1 1) [pk2] _ hof).mono ?_
                              rintro e w9 ⟨rfl, rfl⟩
                              generalize ((wr.alloc _).alloc _) = w9 at *
                              by_cases hu : (bits .and .i64 U (ofI [pk2]) == 0) = true
                              · have HB := HBad (by rw [hin]; simp [hu])
                                clear HOn HBad hst hof hst9
                                have p0 := blk_cell (l := [_, _, _, _]) hr9 0 _ rfl
                                have p1 := blk_cell (l := [_, _, _, _]) hr9 1 _ rfl
                                have p2 := blk_cell (l := [_, _, _, _]) hr9 2 _ rfl
                                have p3 := blk_cell (l := [_, _, _, _]) hr9 3 _ rfl
                                have pf := blk_free hr9
                                go_wp2_with fail
                                have hbF := blk_set (blk_set (blk_set (blk_set hr9 0 (.slice none 0 0)) 1 (.slice none 0 0)) 2 (.pointer none)) 3 (.slice none 0 0)
                                have hgF := gr_set (p := ⟨w.heap.size + 1 + 1, 3, none⟩) (gr_set (p := ⟨w.heap.size + 1 + 1, 2, none⟩) (gr_set (p := ⟨w.heap.size + 1 + 1, 1, none⟩) (gr_set (p := ⟨w.heap.size + 1 + 1, 0, none⟩) hgr9 (by show w.heap.size ≤ w.heap.size + 1 + 1; omega) (.slice none 0 0)) (by show w.heap.size ≤ w.heap.size + 1 + 1; omega) (.slice none 0 0)) (by show w.heap.size ≤ w.heap.size + 1 + 1; omega) (.pointer none)) (by show w.heap.size ≤ w.heap.size + 1 + 1; omega) (.slice none 0 0)
                                generalize (World.setCell (World.setCell (World.setCell (World.setCell _ _ _) _ _) _ _) _ _) = WF at *
                                have c0 := blk_cell (l := [_, _, _, _]) hbF 0 _ rfl
                                have c1 := blk_cell (l := [_, _, _, _]) hbF 1 _ rfl
                                have c2 := blk_cell (l := [_, _, _, _]) hbF 2 _ rfl
                                have c3 := blk_cell (l := [_, _, _, _]) hbF 3 _ rfl
                                refine bodyPost_ret (v := .tuple #[zeroBound, .int .i64 44]) ?_ rfl ⟨hgF, Or.inl ⟨fun h => ?_, 44, by decide, rfl⟩⟩
                                · simp [results, Tryz.results11, go_sem, c0, c1, c2, c3, zeroBound]
                                exact HB.out (by rw [hbw, hwt]; exact h)
                              · have hu' : (bits .and .i64 U (ofI [pk2]) == 0) = false := by simpa using hu
                                have HO2 := HOn (by rw [hin]; simp [hu'])
                                clear HOn HBad hst hof hst9
                                go_wp2_with fail
                                go_roundw
                                case rel => exact ⟨k + 1, by omega, by go_num, HO2, hg9⟩
                                case measure => simp [intOf]; omega
                            · rw [if_neg (by omega)] at hin
                              have h1' : (pk1 == 1) = false := by simpa using h1
                              have h6' : (pk1 == 6) = false := by simpa using h6
                              have HO2 := HOn hin
                              clear HOn HBad hst hof hst9 hr9 hgr9 hg9
                              go_wp2_with fail
                              go_roundw
                              case rel => exact ⟨k + 1, by omega, by go_num, HO2, hg8⟩
                              case measure => simp [intOf]; omega
                        · have hkl : k = items.length := by omega
                          subst hkl
                          rw [List.take_length] at HU
                          have hst := hst3.grow hgr
                          have hrt := hRT pt _ _ none hrt3 hgr (by simp)
                          have hiu9 := Rd.keep hiu3 hgr (by simp)
                          have hok := HOK.out HU.out
                          have t0 := blk_cell (l := [_, _, _, _]) hst.t 0 _ rfl
                          have t1 := blk_cell (l := [_, _, _, _]) hst.t 1 _ rfl
                          have t2 := blk_cell (l := [_, _, _, _]) hst.t 2 _ rfl
                          have t3 := blk_cell (l := [_, _, _, _]) hst.t 3 _ rfl
                          have hTs := blk_lt hst.t
                          have p0 := blk_cell (l := [_, _, _, _]) hst.r 0 _ rfl
                          have p1 := blk_cell (l := [_, _, _, _]) hst.r 1 _ rfl
                          have p2 := blk_cell (l := [_, _, _, _]) hst.r 2 _ rfl
                          have p3 := blk_cell (l := [_, _, _, _]) hst.r 3 _ rfl
                          have pf := blk_free hst.r
                          have hr := hst.r
                          have hgr0 := hst.gr
                          clear hst3 hrt3 hiu3 HOK HU HBP hst hgr
                          go_wp2_with fail
                          have hgS := gr_setR (p := ⟨w.heap.size + 1 + 1, 3, none⟩) (gr_setR (p := ⟨w.heap.size + 1 + 1, 2, none⟩) (gr_setR (p := ⟨w.heap.size + 1 + 1, 1, none⟩) (gr_setR (p := ⟨w.heap.size + 1 + 1, 0, none⟩) (gr_refl wr (some (w.heap.size + 1 + 1))) rfl (.slice avp items.length cvp)) rfl (.slice avn items.length cvn)) rfl (.pointer pt)) rfl (.slice au l.length cu)
                          have hbF := blk_set (blk_set (blk_set (blk_set hr 0 (.slice avp items.length cvp)) 1 (.slice avn items.length cvn)) 2 (.pointer pt)) 3 (.slice au l.length cu)
                          have hgF := gr_set (p := ⟨w.heap.size + 1 + 1, 3, none⟩) (gr_set (p := ⟨w.heap.size + 1 + 1, 2, none⟩) (gr_set (p := ⟨w.heap.size + 1 + 1, 1, none⟩) (gr_set (p := ⟨w.heap.size + 1 + 1, 0, none⟩) hgr0 (by show w.heap.size ≤ w.heap.size + 1 + 1; omega) (.slice avp items.length cvp)) (by show w.heap.size ≤ w.heap.size + 1 + 1; omega) (.slice avn items.length cvn)) (by show w.heap.size ≤ w.heap.size + 1 + 1; omega) (.pointer pt)) (by show w.heap.size ≤ w.heap.size + 1 + 1; omega) (.slice au l.length cu)
                          have hrtF := hRT pt _ _ (some (w.heap.size + 1 + 1)) hrt hgS (fun b e => .inl (by cases e; unfold tyOf; rw [hr]))
                          have hiF := Rd.both (Rd.mono (G := (w.heap.size ≤ ·)) (Rd.keep hiu9 hgS (fun k hk e => by cases e; omega)) (fun k hk => by show w.heap.size ≤ k; omega))
                          generalize (World.setCell (World.setCell (World.setCell (World.setCell _ _ _) _ _) _ _) _ _) = WF at *
                          have d0 := blk_cell (l := [_, _, _, _]) hbF 0 _ rfl
                          have d1 := blk_cell (l := [_, _, _, _]) hbF 1 _ rfl
                          have d2 := blk_cell (l := [_, _, _, _]) hbF 2 _ rfl
                          have d3 := blk_cell (l := [_, _, _, _]) hbF 3 _ rfl
                          refine bodyPost_ret (v := .tuple #[.agg #[.slice avp items.length cvp, .slice avn items.length cvn, .pointer pt, .slice au l.length cu], .int .i64 0]) ?_ rfl ⟨hgF, Or.inr ⟨hok, _, _, _, _, _, _, _, _, rfl, hrtF, ?_⟩⟩
                          · simp [results, Tryz.results11, go_sem, d0, d1, d2, d3]
                          · rw [hexH.out]; exact hiF
                · have her' : (er != 0) = true := by simpa using her
                  have HB := HBX.out her
                  have q0 := blk_cell (l := [_, _, _, _]) hst2.r 0 _ rfl
                  have q1 := blk_cell (l := [_, _, _, _]) hst2.r 1 _ rfl
                  have q2 := blk_cell (l := [_, _, _, _]) hst2.r 2 _ rfl
                  have q3 := blk_cell (l := [_, _, _, _]) hst2.r 3 _ rfl
                  have qf := blk_free hst2.r
                  have hlr := hst2.lt
                  have hr3 := hst3.r
                  have hgr3 := hst3.gr
                  clear HBX HOK HBP hexH hst2 hst3 hrt3 hiu3
                  have p0 := blk_cell (l := [_, _, _, _]) hr3 0 _ rfl
                  have p1 := blk_cell (l := [_, _, _, _]) hr3 1 _ rfl
                  have p2 := blk_cell (l := [_, _, _, _]) hr3 2 _ rfl
                  have p3 := blk_cell (l := [_, _, _, _]) hr3 3 _ rfl
                  have pf := blk_free hr3
                  go_wp2_with fail
                  have hbF := blk_set (blk_set (blk_set (blk_set hr3 0 (.slice none 0 0)) 1 (.slice none 0 0)) 2 (.pointer none)) 3 (.slice none 0 0)
                  have hgF := gr_set (p := ⟨w.heap.size + 1 + 1, 3, none⟩) (gr_set (p := ⟨w.heap.size + 1 + 1, 2, none⟩) (gr_set (p := ⟨w.heap.size + 1 + 1, 1, none⟩) (gr_set (p := ⟨w.heap.size + 1 + 1, 0, none⟩) hgr3 (by show w.heap.size ≤ w.heap.size + 1 + 1; omega) (.slice none 0 0)) (by show w.heap.size ≤ w.heap.size + 1 + 1; omega) (.slice none 0 0)) (by show w.heap.size ≤ w.heap.size + 1 + 1; omega) (.pointer none)) (by show w.heap.size ≤ w.heap.size + 1 + 1; omega) (.slice none 0 0)
                  generalize (World.setCell (World.setCell (World.setCell (World.setCell _ _ _) _ _) _ _) _ _) = WF at *
                  have c0 := blk_cell (l := [_, _, _, _]) hbF 0 _ rfl
                  have c1 := blk_cell (l := [_, _, _, _]) hbF 1 _ rfl
                  have c2 := blk_cell (l := [_, _, _, _]) hbF 2 _ rfl
                  have c3 := blk_cell (l := [_, _, _, _]) hbF 3 _ rfl
                  refine bodyPost_ret (v := .tuple #[zeroBound, .int .i64 er]) ?_ rfl ⟨hgF, Or.inl ⟨fun h => ?_, er, her, rfl⟩⟩
                  · simp [results, Tryz.results11, go_sem, c0, c1, c2, c3, zeroBound]
                  exact HB h
    · have hst : (table.toList == (factsB).toList) = false := streq_no ht
      have hst2 : (table.toList == [102, 97, 99, 116, 115]) = false := by
        rwa [show (factsB : ByteArray).toList = [102, 97, 99, 116, 115] by rw [ByteArray.toList_eq]] at hst
      clear hst
      have p0 := blk_cell (l := [_, _, _, _]) r5 0 _ rfl
      have p1 := blk_cell (l := [_, _, _, _]) r5 1 _ rfl
      have p2 := blk_cell (l := [_, _, _, _]) r5 2 _ rfl
      have p3 := blk_cell (l := [_, _, _, _]) r5 3 _ rfl
      have pf := blk_free r5
      go_wp2_with fail
      have hbF := blk_set (blk_set (blk_set (blk_set r5 0 (.slice none 0 0)) 1 (.slice none 0 0)) 2 (.pointer none)) 3 (.slice none 0 0)
      have hgF := gr_set (p := ⟨w.heap.size + 1 + 1, 3, none⟩) (gr_set (p := ⟨w.heap.size + 1 + 1, 2, none⟩) (gr_set (p := ⟨w.heap.size + 1 + 1, 1, none⟩) (gr_set (p := ⟨w.heap.size + 1 + 1, 0, none⟩) hg5 (by show w.heap.size ≤ w.heap.size + 1 + 1; omega) (.slice none 0 0)) (by show w.heap.size ≤ w.heap.size + 1 + 1; omega) (.slice none 0 0)) (by show w.heap.size ≤ w.heap.size + 1 + 1; omega) (.pointer none)) (by show w.heap.size ≤ w.heap.size + 1 + 1; omega) (.slice none 0 0)
      generalize (World.setCell (World.setCell (World.setCell (World.setCell _ _ _) _ _) _ _) _ _) = WF at *
      have c0 := blk_cell (l := [_, _, _, _]) hbF 0 _ rfl
      have c1 := blk_cell (l := [_, _, _, _]) hbF 1 _ rfl
      have c2 := blk_cell (l := [_, _, _, _]) hbF 2 _ rfl
      have c3 := blk_cell (l := [_, _, _, _]) hbF 3 _ rfl
      refine bodyPost_ret (v := .tuple #[zeroBound, .int .i64 42]) ?_ rfl ⟨hgF, Or.inl ⟨fun h => ?_, 42, by decide, rfl⟩⟩
      · simp [results, Tryz.results11, go_sem, c0, c1, c2, c3, zeroBound]
      exact ht h.tab
end Go.Proofs.YtoilgmdfbibniaaGreatDoor
