/- lex.Words: a text's words, or what is wrong with it. -/
import Derived.Test.YtoilgmdfbibniaaGreatDoorText
import Derived.Test.YtoilgmdfbibniaaGreatDoorName
set_option linter.unusedSimpArgs false
set_option linter.unusedVariables false
set_option maxRecDepth 20000
namespace Go.Proofs.YtoilgmdfbibniaaGreatDoor
open Go Go.RowKit

theorem runTo_gt (s : ByteArray) (p : Nat → Bool) (k : Nat) (h : k < s.size) (hp : p (kindOf (byteAt s k)) = true) : k < runTo s p k ∧ runTo s p k ≤ s.size := by
  rw [runTo, dif_pos ⟨h, hp⟩]
  have := runTo_le s p (k + 1) (by omega)
  omega

/-- a word: its kind, its text, its place -/
abbrev W3 := Nat × ByteArray × Nat
def wCells (l : List W3) : List Value := l.flatMap fun x => [.int .i64 (x.1 : Int), .string x.2.1, .int .i64 (x.2.2 : Int)]
theorem wCells_length (l : List W3) : (wCells l).length = l.length * 3 := by
  unfold wCells
  induction l with
  | nil => rfl
  | cons x l ih => simp [List.flatMap_cons, ih]; omega
theorem wCells_app (l : List W3) (x : W3) : wCells (l ++ [x]) = wCells l ++ [.int .i64 (x.1 : Int), .string x.2.1, .int .i64 (x.2.2 : Int)] := by simp [wCells, List.flatMap_append]

def twoSign (s : ByteArray) (k : Nat) : Bool := decide (k + 1 < s.size) && ((byteAt s k == 60 && (byteAt s (k + 1) == 62 || byteAt s (k + 1) == 61)) || (byteAt s k == 62 && byteAt s (k + 1) == 61))

def lexStep (s : ByteArray) (k : Nat) : Except (Nat × Nat) (Nat × List W3) :=
  match kindOf (byteAt s k) with
  | 1 => .ok (k + 1, [])
  | 2 => let n := runTo s isWordB k
         let t := s.extract k n
         if isKeyB t = true then .ok (n, [(2, capS t, k)]) else if 32 < n - k then .error (45, k) else .ok (n, [(1, t, k)])
  | 3 => let n := runTo s isDigB k
         if 1 < n - k ∧ byteAt s k = 48 then .error (40, k) else if 19 < n - k then .error (45, k) else if n < s.size ∧ kindOf (byteAt s n) = 2 then .error (40, n) else .ok (n, [(3, s.extract k n, k)])
  | 4 => match textGo s (k + 1) [] with
         | none => .error (40, k)
         | some (t, n) => if 64 < t.length then .error (45, k) else .ok (n, [(4, ⟨t.toArray⟩, k)])
  | 5 => let n := if twoSign s k = true then k + 2 else k + 1
         .ok (n, [(5, s.extract k n, k)])
  | _ => .error (40, k)

def lexGo (s : ByteArray) (k : Nat) (out : List W3) : Except (Nat × Nat) (List W3) :=
  if h : k < s.size then
    match lexStep s k with
    | .error e => .error e
    | .ok (n, ws) => if k < n then lexGo s n (out ++ ws) else .error (40, 0)
  else .ok out
termination_by s.size - k

theorem lexGo_ok {s : ByteArray} {k : Nat} {out : List W3} {n : Nat} {ws : List W3} {r : Except (Nat × Nat) (List W3)} (h : k < s.size) (hs : lexStep s k = .ok (n, ws)) (hn : k < n) (hr : Hid (lexGo s k out = r)) : Hid (lexGo s n (out ++ ws) = r) := by
  unfold Hid; rw [← hr.out, lexGo.eq_1 s k out, dif_pos h, hs]; simp [hn]
theorem lexGo_err {s : ByteArray} {k : Nat} {out : List W3} {e : Nat × Nat} {r : Except (Nat × Nat) (List W3)} (h : k < s.size) (hs : lexStep s k = .error e) (hr : Hid (lexGo s k out = r)) : Hid (r = .error e) := by
  unfold Hid; rw [← hr.out, lexGo.eq_1 s k out, dif_pos h, hs]

def finF (n : Nat) : Except (Nat × Nat) (List W3) → Except (Nat × Nat) (List W3)
  | .error e => .error e
  | .ok l => .ok (l ++ [(6, ⟨#[]⟩, n)])
def wordsF (s : ByteArray) : Except (Nat × Nat) (List W3) :=
  if 4096 < s.size then .error (45, 0) else finF s.size (lexGo s 0 [])

/-- what Words returns: r, in world w' -/
def WordsPost (n : Nat) (r : Except (Nat × Nat) (List W3)) (e : Ending) (w' : World) : Prop :=
  match r with
  | .error (c, a) => e = .returned (.tuple #[.slice none 0 0, .agg #[.int .i64 (c : Int), .int .i64 (a : Int)]])
  | .ok l => ∃ v, e = .returned (.tuple #[v, .agg #[.int .i64 0, .int .i64 0]]) ∧ Rd (n ≤ ·) w' v l.length (wCells l)

/-- what the loop keeps -/
structure LexInv (s : ByteArray) (w : World) (r : Except (Nat × Nat) (List W3)) (v : Value) (k : Nat) (out : List W3) (wr : World) : Prop where
  le : k ≤ s.size
  len : out.length ≤ k
  eq : Hid (lexGo s k out = r)
  b0 : wr.heap[w.heap.size]? = some (.cells #[.int .i64 0, .int .i64 0] 48 (0, 0))
  b1 : wr.heap[w.heap.size + 1]? = some (.cells #[.int .i64 0, .int .i64 0] 48 (0, 0))
  own : wr.ownsRow (w.heap.size + 2) 116 3 v out.length (wCells out)
  bel : Below w.heap.size w wr
  size : w.heap.size + 2 ≤ wr.heap.size

theorem LexInv.step {s : ByteArray} {w : World} {r : Except (Nat × Nat) (List W3)} {v : Value} {k : Nat} {out : List W3} {wr w2 : World} (h : LexInv s w r v k out wr) (hb : Below wr.heap.size wr w2) : LexInv s w r v k out w2 :=
  ⟨h.le, h.len, h.eq, gr_blk (gr_below hb none) h.b0 (by simp), gr_blk (gr_below hb none) h.b1 (by simp), h.own.kept (row := none) (gr_below hb none) (by cases v.ownBlock <;> simp), h.bel.trans (hb.mono (by have := h.size; omega)), Nat.le_trans h.size hb.size⟩

theorem ClipW_any (g n c : Nat) (w : World) (h : n ≤ c) (hn : n ≤ 140737488355328) : Calls Tryz.prog 64 #[.slice (some ⟨g, 0, none⟩) n c] w fun e w' => e = .returned (.slice (some ⟨g, 0, none⟩) n n) ∧ w = w' := by
  go_enter Tryz.func64, Tryz.ntmps64
  go_wp2_with fail
  go_ret
  exact ⟨rfl, rfl⟩

theorem fail_any (c a : Int) (bp : Nat) (w : World) (hb : w.heap[bp]? = some (.cells #[.int .i64 0, .int .i64 0] 48 (0, 0))) :
    Calls Tryz.prog 56 #[.int .i64 c, .int .i64 a, .pointer (some ⟨bp, 0, none⟩)] w fun e w' => e = .returned (.tuple #[]) ∧ w'.heap[bp]? = some (.cells #[.int .i64 c, .int .i64 a] 48 (0, 0)) ∧ w.grownBy w' (some bp) := by
  have p0 := blk_cell (l := [_, _]) hb 0 _ rfl
  have p1 := blk_cell (l := [_, _]) hb 1 _ rfl
  have pf := blk_free hb
  go_enter Tryz.func56, Tryz.ntmps56
  go_wp2_with fail
  go_end0
  exact ⟨rfl, blk_set (blk_set hb 0 (.int .i64 c)) 1 (.int .i64 a), gr_setR (p := ⟨bp, 1, none⟩) (gr_setR (p := ⟨bp, 0, none⟩) (gr_refl _ _) rfl _) rfl _⟩

theorem LexInv.put {s : ByteArray} {w : World} {r : Except (Nat × Nat) (List W3)} {v : Value} {k : Nat} {out : List W3} {wr : World} (h : LexInv s w r v k out wr) {bx : Nat} (hx : w.heap.size + 2 ≤ bx) (hv : ∀ b, v.ownBlock = some b → b < bx) (o : Nat) (u : Value) :
    LexInv s w r v k out (wr.setCell ⟨bx, o, none⟩ u) :=
  ⟨h.le, h.len, h.eq, blk_set_ne h.b0 (by omega) _ _, blk_set_ne h.b1 (by omega) _ _,
    h.own.kept (row := some bx) (gr_setR (p := ⟨bx, o, none⟩) (gr_refl _ _) rfl _) (by
      cases hb : v.ownBlock with
      | none => exact .inl rfl
      | some b => exact .inr (fun e => by cases e; have := hv _ hb; omega)), h.bel.setCell (p := ⟨bx, o, none⟩) (by show w.heap.size ≤ bx; omega) _, by rw [size_set]; exact h.size⟩
theorem Rd.clip {F : Nat → Prop} {w : World} {a : Option Addr} {n c m : Nat} {cs : List Value} (h : Rd F w (.slice a n c) m cs) (hm : m ≤ maxLen) : Rd F w (.slice a m m) m cs := by
  obtain ⟨a', c', hv, hn, _, h⟩ := h
  cases hv
  exact ⟨a, _, rfl, Nat.le_refl _, hm, h⟩
theorem LexInv.push {s : ByteArray} {w : World} {r : Except (Nat × Nat) (List W3)} {v v1 : Value} {k n : Nat} {out : List W3} {wr w9 : World} {kd : Nat} {t : ByteArray} (h : LexInv s w r v k out wr) (hn1 : k < n) (hn2 : n ≤ s.size) (HE : Hid (lexGo s n (out ++ [(kd, t, k)]) = r))
    (hown : w9.ownsRow (w.heap.size + 2) 116 3 v1 (out.length + 1) (wCells out ++ [.int .i64 kd, .string t, .int .i64 k])) (hgr : wr.grownBy w9 v.ownBlock) : LexInv s w r v1 n (out ++ [(kd, t, k)]) w9 := by
  have hne : ∀ b, v.ownBlock = some b → w.heap.size + 2 ≤ b := fun b hb => (h.own.lt b hb).1
  refine ⟨hn2, by have := h.len; simp; omega, HE, gr_blk hgr h.b0 (fun e => by have := hne _ e.symm; omega), gr_blk hgr h.b1 (fun e => by have := hne _ e.symm; omega), by rw [wCells_app]; simpa using hown, ?_, Nat.le_trans h.size hgr.size⟩
  exact h.bel.grown hgr (by have := h.size; omega) (fun b hb => by have := hne b hb; omega)
theorem lexStep2 {s : ByteArray} {k : Nat} (h : kindOf (byteAt s k) = 2) : lexStep s k = if isKeyB (s.extract k (runTo s isWordB k)) = true then .ok (runTo s isWordB k, [(2, capS (s.extract k (runTo s isWordB k)), k)]) else if 32 < runTo s isWordB k - k then .error (45, k) else .ok (runTo s isWordB k, [(1, s.extract k (runTo s isWordB k), k)]) := by simp [lexStep, h]
theorem lexStep3 {s : ByteArray} {k : Nat} (h : kindOf (byteAt s k) = 3) : lexStep s k = if 1 < runTo s isDigB k - k ∧ byteAt s k = 48 then .error (40, k) else if 19 < runTo s isDigB k - k then .error (45, k) else if runTo s isDigB k < s.size ∧ kindOf (byteAt s (runTo s isDigB k)) = 2 then .error (40, runTo s isDigB k) else .ok (runTo s isDigB k, [(3, s.extract k (runTo s isDigB k), k)]) := by simp [lexStep, h]
theorem lexStep4 {s : ByteArray} {k : Nat} (h : kindOf (byteAt s k) = 4) : lexStep s k = match textGo s (k + 1) [] with
         | none => .error (40, k)
         | some (t, n) => if 64 < t.length then .error (45, k) else .ok (n, [(4, ⟨t.toArray⟩, k)]) := by simp [lexStep, h]
theorem lexStep5 {s : ByteArray} {k : Nat} (h : kindOf (byteAt s k) = 5) : lexStep s k = .ok (if twoSign s k = true then k + 2 else k + 1, [(5, s.extract k (if twoSign s k = true then k + 2 else k + 1), k)]) := by simp [lexStep, h]

set_option maxHeartbeats 40000000 in
theorem Words_any (s : ByteArray) (w : World) (hs : s.size < 35184372088832) (hg : Glob w) :
    Calls Tryz.prog 27 #[.string s] w fun e w' => WordsPost w.heap.size (wordsF s) e w' ∧ Below w.heap.size w w' := by
  by_cases h4 : 4096 < s.size
  · have HS : Hid (wordsF s = .error (45, 0)) := by unfold Hid; simp [wordsF, h4]
    go_enter Tryz.func27, Tryz.ntmps27
    go_wp2_with fail
    go_step3
    have hb := heap_new w (.cells #[.int .i64 0, .int .i64 0] 48) _ rfl
    have p0 := blk_cell (l := [_, _]) hb 0 _ rfl
    have p1 := blk_cell (l := [_, _]) hb 1 _ rfl
    have pf := blk_free hb
    go_wp2_with fail
    rw [Exit.noGoto_ret]
    refine bodyPost_ret (v := .tuple #[.slice none 0 0, .agg #[.int .i64 45, .int .i64 0]]) ?_ rfl ⟨by rw [HS.out]; rfl, ?_⟩
    · have hbF := blk_set (blk_set hb 0 (.int .i64 45)) 1 (.int .i64 0)
      generalize (World.setCell _ _ _) = W at *
      have c0 := blk_cell (l := [_, _]) hbF 0 _ rfl
      have c1 := blk_cell (l := [_, _]) hbF 1 _ rfl
      simp [results, Tryz.results27, go_sem, c0, c1]
    · exact (Below.refl _ _).alloc (Nat.le_refl _) _
  · generalize hr : lexGo s 0 [] = r
    have HR : Hid (lexGo s 0 [] = r) := hr
    have HF : Hid (wordsF s = finF s.size r) := by unfold Hid; rw [wordsF, if_neg h4, hr]
    clear hr
    generalize wordsF s = rr at *
    have hbel : Below w.heap.size w ((w.alloc (.cells #[.int .i64 0, .int .i64 0] 48)).alloc (.cells #[.int .i64 0, .int .i64 0] 48)) := ((Below.refl _ _).alloc (Nat.le_refl _) _).alloc (by simp) _
    have hb1 := heap_new (w.alloc (.cells #[.int .i64 0, .int .i64 0] 48)) (.cells #[.int .i64 0, .int .i64 0] 48) (w.heap.size + 1) (by simp)
    have hb0 := heap_old _ (.cells #[.int .i64 0, .int .i64 0] 48) _ _ (heap_new w (.cells #[.int .i64 0, .int .i64 0] 48) _ rfl)
    have hsz : w.heap.size + 2 ≤ ((w.alloc (.cells #[.int .i64 0, .int .i64 0] 48)).alloc (.cells #[.int .i64 0, .int .i64 0] 48)).heap.size := by simp
    go_enter Tryz.func27, Tryz.ntmps27
    go_wp2_with fail
    go_step3
    go_wp2_with fail
    go_step3
    go_wp2_with fail
    generalize ((w.alloc (.cells #[.int .i64 0, .int .i64 0] 48)).alloc (.cells #[.int .i64 0, .int .i64 0] 48)) = w0 at *
    go_loopw [4, 5] (fun v x wr => ∃ (k : Nat) (out : List W3), x = .int .i64 k ∧ LexInv s w r v k out wr) (fun _ x _ => s.size - (intOf x).toNat)
    case atStart => exact ⟨0, [], rfl, by omega, by simp, HR, hb0, hb1, World.ownsRow_nil _ _ _ _, hbel, hsz⟩
    case round =>
      clear hbel hb1 hb0 hsz HR
      obtain ⟨k, out, rfl, hinv⟩ := hrel
      have hle := hinv.le
      by_cases hlt : k < s.size
      · have hb : ((s[k]'hlt).toNat : Int) = (byteAt s k : Int) := by rw [byteAt_in s k hlt]
        have hgk := hg.below hinv.bel
        have HK := kind_any (byteAt s k) (byteAt_lt s k) wr hgk.kinds
        have hk6 := kindOf_lt (byteAt s k)
        have hcases : kindOf (byteAt s k) = 0 ∨ kindOf (byteAt s k) = 1 ∨ kindOf (byteAt s k) = 2 ∨ kindOf (byteAt s k) = 3 ∨ kindOf (byteAt s k) = 4 ∨ kindOf (byteAt s k) = 5 := by omega
        rcases hcases with hk | hk | hk | hk | hk | hk
        · -- anything else
          rw [hk] at HK
          have HE := lexGo_err (e := (40, k)) hlt (by simp [lexStep, hk]) hinv.eq
          clear hgk hk6
          go_wp2_with fail
          refine HK.mono ?_
          rintro e w' ⟨rfl, rfl⟩
          go_wp2_with fail
          as_aux_lemma =>
            refine (fail_any 40 (k : Int) (w.heap.size + 1) _ hinv.b1).mono ?_
            rintro e w9 ⟨rfl, hb9, hg9⟩
            have HF2 : Hid (rr = .error (40, k)) := by unfold Hid; rw [HF.out, HE.out]; rfl
            have hbel9 : Below w.heap.size w w9 := below_gr (gr_trans' (gr_below hinv.bel none) hg9 (by simp))
            have hb8 := gr_blk hg9 hinv.b0 (by simp)
            have q0 := blk_cell (l := [_, _]) hb9 0 _ rfl
            have q1 := blk_cell (l := [_, _]) hb9 1 _ rfl
            clear hinv HF HE
            have p0 := blk_cell (l := [_, _]) hb8 0 _ rfl
            have p1 := blk_cell (l := [_, _]) hb8 1 _ rfl
            have pf := blk_free hb8
            go_wp2_with fail
            refine still_tail 2 (by kernel_rfl) (by kernel_rfl) ?_
            simp only [List.take_succ_cons, List.take_zero, List.drop_succ_cons, List.drop_zero]
            repeat still_step
            refine wpStill_nil ?_
            go_wp2_with fail
            rw [Exit.noGoto_ret]
            refine bodyPost_ret (v := .tuple #[.slice none 0 0, .agg #[.int .i64 40, .int .i64 (k : Int)]]) ?_ rfl ⟨by rw [HF2.out]; rfl, ?_⟩
            · have hbF := blk_set (blk_set hb8 0 (.int .i64 40)) 1 (.int .i64 (k : Int))
              generalize (World.setCell _ _ _) = W at *
              have c0 := blk_cell (l := [_, _]) hbF 0 _ rfl
              have c1 := blk_cell (l := [_, _]) hbF 1 _ rfl
              simp [results, Tryz.results27, go_sem, c0, c1]
            · exact (hbel9.drew.setCell (p := ⟨w.heap.size, 0, none⟩) (Nat.le_refl _) _).setCell (p := ⟨w.heap.size, 1, none⟩) (Nat.le_refl _) _
        · -- blanks
          rw [hk] at HK
          have HE := lexGo_ok (n := k + 1) (ws := []) hlt (by simp [lexStep, hk]) (by omega) hinv.eq
          clear hgk hk6
          go_wp2_with fail
          refine HK.mono ?_
          rintro e w' ⟨rfl, rfl⟩
          go_wp2_with fail
          go_roundw
          case rel => exact ⟨k + 1, out, by go_num, by omega, by have := hinv.len; omega, by simpa using HE, hinv.b0, hinv.b1, hinv.own, hinv.bel, hinv.size⟩
          case measure => simp [intOf]; omega
        · -- a name or a keyword
          rw [hk] at HK
          have hst := lexStep2 hk
          have HRn := run_any s k (by omega) (by omega) isWordB 59 (fun args w => by kernel_rfl) (fun kk W => isWord_any kk W) wr hgk.kinds
          have hn := runTo_gt s isWordB k hlt (by rw [hk]; rfl)
          generalize runTo s isWordB k = n at *
          obtain ⟨hn1, hn2⟩ := hn
          have hts : (s.extract k n).size = n - k := by simp; omega
          clear hk6
          go_wp2_with fail
          refine HK.mono ?_
          rintro e w' ⟨rfl, rfl⟩
          clear HK hb
          go_wp2_with fail
          refine HRn.mono ?_
          rintro e w' ⟨rfl, rfl⟩
          clear HRn
          go_wp2_with fail
          generalize s.extract k n = t at *
          have hbx := heap_new wr (.cells #[.int .i64 1, .string t, .int .i64 (k : Int)] 116) _ rfl
          have hbn := hinv.step ((Below.refl wr.heap.size wr).alloc (Nat.le_refl _) (.cells #[.int .i64 1, .string t, .int .i64 (k : Int)] 116))
          generalize (wr.alloc (.cells #[.int .i64 1, .string t, .int .i64 (k : Int)] 116)) = w1 at *
          generalize hbi : wr.heap.size = bx at *
          have hbx2 : w.heap.size + 2 ≤ bx := by have := hinv.size; omega
          have hvb : ∀ b, u4.ownBlock = some b → b < bx := fun b hb => by have := (hinv.own.lt b hb).2; omega
          clear hinv hbi
          refine (IsKeyword_any t w1 (by omega) (hg.below hbn.bel)).mono ?_
          rintro e w2 ⟨rfl, hb2⟩
          have hinv := hbn.step hb2
          have hbx := gr_blk (gr_below hb2 none) hbx (by simp)
          clear hbn hb2
          cases hky : isKeyB t
          · by_cases h32 : 32 < n - k
            · have HE := lexGo_err (e := (45, k)) hlt (by rw [hst, hky, if_neg (by simp), if_pos h32]) hinv.eq
              have p1 := blk_cell (l := [_, _, _]) hbx 1 _ rfl
              have hts' : (t.size : Int) > 32 := by omega
              clear hst hbx hky h32
              go_wp2_with fail
              as_aux_lemma =>
                refine (fail_any 45 (k : Int) (w.heap.size + 1) _ hinv.b1).mono ?_
                rintro e w9 ⟨rfl, hb9, hg9⟩
                have HF2 : Hid (rr = .error (45, k)) := by unfold Hid; rw [HF.out, HE.out]; rfl
                have hbel9 : Below w.heap.size w w9 := below_gr (gr_trans' (gr_below hinv.bel none) hg9 (by simp))
                have hb8 := gr_blk hg9 hinv.b0 (by simp)
                have q0 := blk_cell (l := [_, _]) hb9 0 _ rfl
                have q1 := blk_cell (l := [_, _]) hb9 1 _ rfl
                clear hinv HF HE
                have p0 := blk_cell (l := [_, _]) hb8 0 _ rfl
                have p1 := blk_cell (l := [_, _]) hb8 1 _ rfl
                have pf := blk_free hb8
                go_wp2_with fail
                refine still_tail 2 (by kernel_rfl) (by kernel_rfl) ?_
                simp only [List.take_succ_cons, List.take_zero, List.drop_succ_cons, List.drop_zero]
                repeat still_step
                refine wpStill_nil ?_
                go_wp2_with fail
                rw [Exit.noGoto_ret]
                refine bodyPost_ret (v := .tuple #[.slice none 0 0, .agg #[.int .i64 45, .int .i64 (k : Int)]]) ?_ rfl ⟨by rw [HF2.out]; rfl, ?_⟩
                · have hbF := blk_set (blk_set hb8 0 (.int .i64 45)) 1 (.int .i64 (k : Int))
                  generalize (World.setCell _ _ _) = W at *
                  have c0 := blk_cell (l := [_, _]) hbF 0 _ rfl
                  have c1 := blk_cell (l := [_, _]) hbF 1 _ rfl
                  simp [results, Tryz.results27, go_sem, c0, c1]
                · exact (hbel9.drew.setCell (p := ⟨w.heap.size, 0, none⟩) (Nat.le_refl _) _).setCell (p := ⟨w.heap.size, 1, none⟩) (Nat.le_refl _) _
            · have HE := lexGo_ok (n := n) (ws := [(1, t, k)]) hlt (by rw [hst, hky, if_neg (by simp), if_neg h32]) hn1 hinv.eq
              have p0 := blk_cell (l := [_, _, _]) hbx 0 _ rfl
              have p1 := blk_cell (l := [_, _, _]) hbx 1 _ rfl
              have p2 := blk_cell (l := [_, _, _]) hbx 2 _ rfl
              have hts' : (t.size : Int) ≤ 32 := by omega
              clear hst hbx hky h32
              as_aux_lemma =>
                go_wp2_with (at_builtin; refine app1 rfl _ _ 69 116 rfl Tryz.underlying69 (.agg #[.int .i64 0, .string ⟨#[]⟩, .int .i64 0]) 3 32 (by kernel_rfl) rfl (by decide) hinv.own [.int .i64 1, .string t, .int .i64 k] rfl (by first | rfl | (rw [size_set, size_set]; rfl)) rfl (by simp [Value.oneCell']) (by have := hinv.size; omega) (by have := hinv.len; omega) (by have := hinv.len; unfold maxLen; omega) ?_)
                intro v1 w9 hown9 hgr9 _ _
                have hinv9 : LexInv s w r v1 (n) (out ++ [(1, t, k)]) w9 := hinv.push hn1 hn2 HE hown9 hgr9
                clear hinv
                go_wp2_with fail
                go_roundw
                case rel => exact ⟨(n), _, by go_num, hinv9⟩
                case measure => simp [intOf]; omega
          · have HE := lexGo_ok (n := n) (ws := [(2, capS t, k)]) hlt (by rw [hst, hky, if_pos rfl]) hn1 hinv.eq
            have HC := capitals_any t w2 (by omega) (hg.below hinv.bel)
            generalize capS t = tc at *
            have p0 := blk_cell (l := [_, _, _]) hbx 0 _ rfl
            have p1 := blk_cell (l := [_, _, _]) hbx 1 _ rfl
            have p2 := blk_cell (l := [_, _, _]) hbx 2 _ rfl
            clear hst hky
            go_wp2_with fail
            refine HC.mono ?_
            rintro e w3 ⟨rfl, hb3⟩
            have hinv3 := hinv.step hb3
            have hbx := gr_blk (gr_below hb3 none) hbx (by simp)
            clear hinv HC
            have p0 := blk_cell (l := [_, _, _]) hbx 0 _ rfl
            have p1 := blk_cell (l := [_, _, _]) hbx 1 _ rfl
            have p2 := blk_cell (l := [_, _, _]) hbx 2 _ rfl
            have pf := blk_free hbx
            have hinv := (hinv3.put hbx2 hvb 0 (.int .i64 2)).put hbx2 hvb 1 (.string tc)
            clear hinv3 hvb
            as_aux_lemma =>
              go_wp2_with (at_builtin; refine app1 rfl _ _ 69 116 rfl Tryz.underlying69 (.agg #[.int .i64 0, .string ⟨#[]⟩, .int .i64 0]) 3 32 (by kernel_rfl) rfl (by decide) hinv.own [.int .i64 2, .string tc, .int .i64 k] rfl (by first | rfl | (rw [size_set, size_set]; rfl)) rfl (by simp [Value.oneCell']) (by have := hinv.size; omega) (by have := hinv.len; omega) (by have := hinv.len; unfold maxLen; omega) ?_)
              intro v1 w9 hown9 hgr9 _ _
              have hinv9 : LexInv s w r v1 (n) (out ++ [(2, tc, k)]) w9 := hinv.push hn1 hn2 HE hown9 hgr9
              clear hinv
              go_wp2_with fail
              go_roundw
              case rel => exact ⟨(n), _, by go_num, hinv9⟩
              case measure => simp [intOf]; omega
        · -- a number
          rw [hk] at HK
          have hst := lexStep3 hk
          have HRn := run_any s k (by omega) (by omega) isDigB 62 (fun args w => by kernel_rfl) (fun kk W => isDig_any kk W) wr hgk.kinds
          have hn := runTo_gt s isDigB k hlt (by rw [hk]; rfl)
          generalize runTo s isDigB k = n at *
          obtain ⟨hn1, hn2⟩ := hn
          have hkds := hgk.kinds
          clear hk6 hgk
          go_wp2_with fail
          refine HK.mono ?_
          rintro e w' ⟨rfl, rfl⟩
          clear HK
          go_wp2_with fail
          refine HRn.mono ?_
          rintro e w' ⟨rfl, rfl⟩
          clear HRn
          by_cases h1 : 1 < n - k
          · by_cases h48 : byteAt s k = 48
            · have HE := lexGo_err (e := (40, k)) hlt (by rw [hst, if_pos ⟨h1, h48⟩]) hinv.eq
              have hb' : ((s[k]'hlt).toNat : Int) = 48 := by rw [hb, h48]; rfl
              clear hst hb hkds
              go_wp2_with fail
              as_aux_lemma =>
                refine (fail_any 40 (k : Int) (w.heap.size + 1) _ hinv.b1).mono ?_
                rintro e w9 ⟨rfl, hb9, hg9⟩
                have HF2 : Hid (rr = .error (40, k)) := by unfold Hid; rw [HF.out, HE.out]; rfl
                have hbel9 : Below w.heap.size w w9 := below_gr (gr_trans' (gr_below hinv.bel none) hg9 (by simp))
                have hb8 := gr_blk hg9 hinv.b0 (by simp)
                have q0 := blk_cell (l := [_, _]) hb9 0 _ rfl
                have q1 := blk_cell (l := [_, _]) hb9 1 _ rfl
                clear hinv HF HE
                have p0 := blk_cell (l := [_, _]) hb8 0 _ rfl
                have p1 := blk_cell (l := [_, _]) hb8 1 _ rfl
                have pf := blk_free hb8
                go_wp2_with fail
                refine still_tail 2 (by kernel_rfl) (by kernel_rfl) ?_
                simp only [List.take_succ_cons, List.take_zero, List.drop_succ_cons, List.drop_zero]
                repeat still_step
                refine wpStill_nil ?_
                go_wp2_with fail
                rw [Exit.noGoto_ret]
                refine bodyPost_ret (v := .tuple #[.slice none 0 0, .agg #[.int .i64 40, .int .i64 (k : Int)]]) ?_ rfl ⟨by rw [HF2.out]; rfl, ?_⟩
                · have hbF := blk_set (blk_set hb8 0 (.int .i64 40)) 1 (.int .i64 (k : Int))
                  generalize (World.setCell _ _ _) = W at *
                  have c0 := blk_cell (l := [_, _]) hbF 0 _ rfl
                  have c1 := blk_cell (l := [_, _]) hbF 1 _ rfl
                  simp [results, Tryz.results27, go_sem, c0, c1]
                · exact (hbel9.drew.setCell (p := ⟨w.heap.size, 0, none⟩) (Nat.le_refl _) _).setCell (p := ⟨w.heap.size, 1, none⟩) (Nat.le_refl _) _
            · have hb' : (byteAt s k : Int) ≠ 48 := by omega
              by_cases h19 : 19 < n - k
              · have HE := lexGo_err (e := (45, k)) hlt (by rw [hst, if_neg (by omega), if_pos h19]) hinv.eq
                clear hst hkds
                go_wp2_with fail
                as_aux_lemma =>
                  refine (fail_any 45 (k : Int) (w.heap.size + 1) _ hinv.b1).mono ?_
                  rintro e w9 ⟨rfl, hb9, hg9⟩
                  have HF2 : Hid (rr = .error (45, k)) := by unfold Hid; rw [HF.out, HE.out]; rfl
                  have hbel9 : Below w.heap.size w w9 := below_gr (gr_trans' (gr_below hinv.bel none) hg9 (by simp))
                  have hb8 := gr_blk hg9 hinv.b0 (by simp)
                  have q0 := blk_cell (l := [_, _]) hb9 0 _ rfl
                  have q1 := blk_cell (l := [_, _]) hb9 1 _ rfl
                  clear hinv HF HE
                  have p0 := blk_cell (l := [_, _]) hb8 0 _ rfl
                  have p1 := blk_cell (l := [_, _]) hb8 1 _ rfl
                  have pf := blk_free hb8
                  go_wp2_with fail
                  refine still_tail 2 (by kernel_rfl) (by kernel_rfl) ?_
                  simp only [List.take_succ_cons, List.take_zero, List.drop_succ_cons, List.drop_zero]
                  repeat still_step
                  refine wpStill_nil ?_
                  go_wp2_with fail
                  rw [Exit.noGoto_ret]
                  refine bodyPost_ret (v := .tuple #[.slice none 0 0, .agg #[.int .i64 45, .int .i64 (k : Int)]]) ?_ rfl ⟨by rw [HF2.out]; rfl, ?_⟩
                  · have hbF := blk_set (blk_set hb8 0 (.int .i64 45)) 1 (.int .i64 (k : Int))
                    generalize (World.setCell _ _ _) = W at *
                    have c0 := blk_cell (l := [_, _]) hbF 0 _ rfl
                    have c1 := blk_cell (l := [_, _]) hbF 1 _ rfl
                    simp [results, Tryz.results27, go_sem, c0, c1]
                  · exact (hbel9.drew.setCell (p := ⟨w.heap.size, 0, none⟩) (Nat.le_refl _) _).setCell (p := ⟨w.heap.size, 1, none⟩) (Nat.le_refl _) _
              · by_cases hnl : n < s.size
                · have hbn : ((s[n]'hnl).toNat : Int) = (byteAt s n : Int) := by rw [byteAt_in s n hnl]
                  have HK2 := kind_any (byteAt s n) (byteAt_lt s n) wr hkds
                  by_cases hk2 : kindOf (byteAt s n) = 2
                  · have HE := lexGo_err (e := (40, n)) hlt (by rw [hst, if_neg (by omega), if_neg h19, if_pos ⟨hnl, hk2⟩]) hinv.eq
                    rw [hk2] at HK2
                    clear hst hkds
                    go_wp2_with fail
                    refine HK2.mono ?_
                    rintro e w' ⟨rfl, rfl⟩
                    clear HK2
                    go_wp2_with fail
                    as_aux_lemma =>
                      refine (fail_any 40 (n : Int) (w.heap.size + 1) _ hinv.b1).mono ?_
                      rintro e w9 ⟨rfl, hb9, hg9⟩
                      have HF2 : Hid (rr = .error (40, n)) := by unfold Hid; rw [HF.out, HE.out]; rfl
                      have hbel9 : Below w.heap.size w w9 := below_gr (gr_trans' (gr_below hinv.bel none) hg9 (by simp))
                      have hb8 := gr_blk hg9 hinv.b0 (by simp)
                      have q0 := blk_cell (l := [_, _]) hb9 0 _ rfl
                      have q1 := blk_cell (l := [_, _]) hb9 1 _ rfl
                      clear hinv HF HE
                      have p0 := blk_cell (l := [_, _]) hb8 0 _ rfl
                      have p1 := blk_cell (l := [_, _]) hb8 1 _ rfl
                      have pf := blk_free hb8
                      go_wp2_with fail
                      refine still_tail 2 (by kernel_rfl) (by kernel_rfl) ?_
                      simp only [List.take_succ_cons, List.take_zero, List.drop_succ_cons, List.drop_zero]
                      repeat still_step
                      refine wpStill_nil ?_
                      go_wp2_with fail
                      rw [Exit.noGoto_ret]
                      refine bodyPost_ret (v := .tuple #[.slice none 0 0, .agg #[.int .i64 40, .int .i64 (n : Int)]]) ?_ rfl ⟨by rw [HF2.out]; rfl, ?_⟩
                      · have hbF := blk_set (blk_set hb8 0 (.int .i64 40)) 1 (.int .i64 (n : Int))
                        generalize (World.setCell _ _ _) = W at *
                        have c0 := blk_cell (l := [_, _]) hbF 0 _ rfl
                        have c1 := blk_cell (l := [_, _]) hbF 1 _ rfl
                        simp [results, Tryz.results27, go_sem, c0, c1]
                      · exact (hbel9.drew.setCell (p := ⟨w.heap.size, 0, none⟩) (Nat.le_refl _) _).setCell (p := ⟨w.heap.size, 1, none⟩) (Nat.le_refl _) _
                  · have HE := lexGo_ok (n := n) (ws := [(3, s.extract k n, k)]) hlt (by rw [hst, if_neg (by omega), if_neg h19, if_neg (by rintro ⟨_, h⟩; exact hk2 h)]) hn1 hinv.eq
                    clear hst hkds
                    generalize kindOf (byteAt s n) = kd at *
                    have hk3 : ((kd : Int) == 2) = false := by simp; omega
                    go_wp2_with fail
                    refine HK2.mono ?_
                    rintro e w' ⟨rfl, rfl⟩
                    clear HK2
                    as_aux_lemma =>
                      go_wp2_with (at_builtin; refine app1 rfl _ _ 69 116 rfl Tryz.underlying69 (.agg #[.int .i64 0, .string ⟨#[]⟩, .int .i64 0]) 3 32 (by kernel_rfl) rfl (by decide) hinv.own [.int .i64 3, .string (s.extract k n), .int .i64 k] rfl (by first | rfl | (rw [size_set, size_set]; rfl)) rfl (by simp [Value.oneCell']) (by have := hinv.size; omega) (by have := hinv.len; omega) (by have := hinv.len; unfold maxLen; omega) ?_)
                      intro v1 w9 hown9 hgr9 _ _
                      have hinv9 : LexInv s w r v1 (n) (out ++ [(3, (s.extract k n), k)]) w9 := hinv.push hn1 hn2 HE hown9 hgr9
                      clear hinv
                      go_wp2_with fail
                      go_roundw
                      case rel => exact ⟨(n), _, by go_num, hinv9⟩
                      case measure => simp [intOf]; omega
                · have HE := lexGo_ok (n := n) (ws := [(3, s.extract k n, k)]) hlt (by rw [hst, if_neg (by omega), if_neg h19, if_neg (by rintro ⟨h, _⟩; exact hnl h)]) hn1 hinv.eq
                  clear hst hkds
                  as_aux_lemma =>
                    go_wp2_with (at_builtin; refine app1 rfl _ _ 69 116 rfl Tryz.underlying69 (.agg #[.int .i64 0, .string ⟨#[]⟩, .int .i64 0]) 3 32 (by kernel_rfl) rfl (by decide) hinv.own [.int .i64 3, .string (s.extract k n), .int .i64 k] rfl (by first | rfl | (rw [size_set, size_set]; rfl)) rfl (by simp [Value.oneCell']) (by have := hinv.size; omega) (by have := hinv.len; omega) (by have := hinv.len; unfold maxLen; omega) ?_)
                    intro v1 w9 hown9 hgr9 _ _
                    have hinv9 : LexInv s w r v1 (n) (out ++ [(3, (s.extract k n), k)]) w9 := hinv.push hn1 hn2 HE hown9 hgr9
                    clear hinv
                    go_wp2_with fail
                    go_roundw
                    case rel => exact ⟨(n), _, by go_num, hinv9⟩
                    case measure => simp [intOf]; omega
          · clear hb
            have h19 : ¬ 19 < n - k := by omega
            by_cases hnl : n < s.size
            · have hbn : ((s[n]'hnl).toNat : Int) = (byteAt s n : Int) := by rw [byteAt_in s n hnl]
              have HK2 := kind_any (byteAt s n) (byteAt_lt s n) wr hkds
              by_cases hk2 : kindOf (byteAt s n) = 2
              · have HE := lexGo_err (e := (40, n)) hlt (by rw [hst, if_neg (by omega), if_neg h19, if_pos ⟨hnl, hk2⟩]) hinv.eq
                rw [hk2] at HK2
                clear hst hkds
                go_wp2_with fail
                refine HK2.mono ?_
                rintro e w' ⟨rfl, rfl⟩
                clear HK2
                go_wp2_with fail
                as_aux_lemma =>
                  refine (fail_any 40 (n : Int) (w.heap.size + 1) _ hinv.b1).mono ?_
                  rintro e w9 ⟨rfl, hb9, hg9⟩
                  have HF2 : Hid (rr = .error (40, n)) := by unfold Hid; rw [HF.out, HE.out]; rfl
                  have hbel9 : Below w.heap.size w w9 := below_gr (gr_trans' (gr_below hinv.bel none) hg9 (by simp))
                  have hb8 := gr_blk hg9 hinv.b0 (by simp)
                  have q0 := blk_cell (l := [_, _]) hb9 0 _ rfl
                  have q1 := blk_cell (l := [_, _]) hb9 1 _ rfl
                  clear hinv HF HE
                  have p0 := blk_cell (l := [_, _]) hb8 0 _ rfl
                  have p1 := blk_cell (l := [_, _]) hb8 1 _ rfl
                  have pf := blk_free hb8
                  go_wp2_with fail
                  refine still_tail 2 (by kernel_rfl) (by kernel_rfl) ?_
                  simp only [List.take_succ_cons, List.take_zero, List.drop_succ_cons, List.drop_zero]
                  repeat still_step
                  refine wpStill_nil ?_
                  go_wp2_with fail
                  rw [Exit.noGoto_ret]
                  refine bodyPost_ret (v := .tuple #[.slice none 0 0, .agg #[.int .i64 40, .int .i64 (n : Int)]]) ?_ rfl ⟨by rw [HF2.out]; rfl, ?_⟩
                  · have hbF := blk_set (blk_set hb8 0 (.int .i64 40)) 1 (.int .i64 (n : Int))
                    generalize (World.setCell _ _ _) = W at *
                    have c0 := blk_cell (l := [_, _]) hbF 0 _ rfl
                    have c1 := blk_cell (l := [_, _]) hbF 1 _ rfl
                    simp [results, Tryz.results27, go_sem, c0, c1]
                  · exact (hbel9.drew.setCell (p := ⟨w.heap.size, 0, none⟩) (Nat.le_refl _) _).setCell (p := ⟨w.heap.size, 1, none⟩) (Nat.le_refl _) _
              · have HE := lexGo_ok (n := n) (ws := [(3, s.extract k n, k)]) hlt (by rw [hst, if_neg (by omega), if_neg h19, if_neg (by rintro ⟨_, h⟩; exact hk2 h)]) hn1 hinv.eq
                clear hst hkds
                generalize kindOf (byteAt s n) = kd at *
                have hk3 : ((kd : Int) == 2) = false := by simp; omega
                go_wp2_with fail
                refine HK2.mono ?_
                rintro e w' ⟨rfl, rfl⟩
                clear HK2
                as_aux_lemma =>
                  go_wp2_with (at_builtin; refine app1 rfl _ _ 69 116 rfl Tryz.underlying69 (.agg #[.int .i64 0, .string ⟨#[]⟩, .int .i64 0]) 3 32 (by kernel_rfl) rfl (by decide) hinv.own [.int .i64 3, .string (s.extract k n), .int .i64 k] rfl (by first | rfl | (rw [size_set, size_set]; rfl)) rfl (by simp [Value.oneCell']) (by have := hinv.size; omega) (by have := hinv.len; omega) (by have := hinv.len; unfold maxLen; omega) ?_)
                  intro v1 w9 hown9 hgr9 _ _
                  have hinv9 : LexInv s w r v1 (n) (out ++ [(3, (s.extract k n), k)]) w9 := hinv.push hn1 hn2 HE hown9 hgr9
                  clear hinv
                  go_wp2_with fail
                  go_roundw
                  case rel => exact ⟨(n), _, by go_num, hinv9⟩
                  case measure => simp [intOf]; omega
            · have HE := lexGo_ok (n := n) (ws := [(3, s.extract k n, k)]) hlt (by rw [hst, if_neg (by omega), if_neg h19, if_neg (by rintro ⟨h, _⟩; exact hnl h)]) hn1 hinv.eq
              clear hst hkds
              as_aux_lemma =>
                go_wp2_with (at_builtin; refine app1 rfl _ _ 69 116 rfl Tryz.underlying69 (.agg #[.int .i64 0, .string ⟨#[]⟩, .int .i64 0]) 3 32 (by kernel_rfl) rfl (by decide) hinv.own [.int .i64 3, .string (s.extract k n), .int .i64 k] rfl (by first | rfl | (rw [size_set, size_set]; rfl)) rfl (by simp [Value.oneCell']) (by have := hinv.size; omega) (by have := hinv.len; omega) (by have := hinv.len; unfold maxLen; omega) ?_)
                intro v1 w9 hown9 hgr9 _ _
                have hinv9 : LexInv s w r v1 (n) (out ++ [(3, (s.extract k n), k)]) w9 := hinv.push hn1 hn2 HE hown9 hgr9
                clear hinv
                go_wp2_with fail
                go_roundw
                case rel => exact ⟨(n), _, by go_num, hinv9⟩
                case measure => simp [intOf]; omega
        · -- a text in quotes
          rw [hk] at HK
          have hst := lexStep4 hk
          have HTx := text_any s k hlt (by omega) wr
          have htl := textGo_le s (k + 1) []
          generalize textGo s (k + 1) [] = tg at *
          clear hk6 hgk
          go_wp2_with fail
          refine HK.mono ?_
          rintro e w' ⟨rfl, rfl⟩
          clear HK hb
          go_wp2_with fail
          refine HTx.mono ?_
          rintro e w2 ⟨rfl, hb2⟩
          have hinv := hinv.step hb2
          clear HTx hb2
          rcases tg with _ | ⟨l, n⟩
          · have HE := lexGo_err (e := (40, k)) hlt (by rw [hst]) hinv.eq
            clear hst htl
            unfold textRet
            go_wp2_with fail
            as_aux_lemma =>
              refine (fail_any 40 (k : Int) (w.heap.size + 1) _ hinv.b1).mono ?_
              rintro e w9 ⟨rfl, hb9, hg9⟩
              have HF2 : Hid (rr = .error (40, k)) := by unfold Hid; rw [HF.out, HE.out]; rfl
              have hbel9 : Below w.heap.size w w9 := below_gr (gr_trans' (gr_below hinv.bel none) hg9 (by simp))
              have hb8 := gr_blk hg9 hinv.b0 (by simp)
              have q0 := blk_cell (l := [_, _]) hb9 0 _ rfl
              have q1 := blk_cell (l := [_, _]) hb9 1 _ rfl
              clear hinv HF HE
              have p0 := blk_cell (l := [_, _]) hb8 0 _ rfl
              have p1 := blk_cell (l := [_, _]) hb8 1 _ rfl
              have pf := blk_free hb8
              go_wp2_with fail
              refine still_tail 2 (by kernel_rfl) (by kernel_rfl) ?_
              simp only [List.take_succ_cons, List.take_zero, List.drop_succ_cons, List.drop_zero]
              repeat still_step
              refine wpStill_nil ?_
              go_wp2_with fail
              rw [Exit.noGoto_ret]
              refine bodyPost_ret (v := .tuple #[.slice none 0 0, .agg #[.int .i64 40, .int .i64 (k : Int)]]) ?_ rfl ⟨by rw [HF2.out]; rfl, ?_⟩
              · have hbF := blk_set (blk_set hb8 0 (.int .i64 40)) 1 (.int .i64 (k : Int))
                generalize (World.setCell _ _ _) = W at *
                have c0 := blk_cell (l := [_, _]) hbF 0 _ rfl
                have c1 := blk_cell (l := [_, _]) hbF 1 _ rfl
                simp [results, Tryz.results27, go_sem, c0, c1]
              · exact (hbel9.drew.setCell (p := ⟨w.heap.size, 0, none⟩) (Nat.le_refl _) _).setCell (p := ⟨w.heap.size, 1, none⟩) (Nat.le_refl _) _
          · obtain ⟨hn1, hn2, hl3⟩ := htl l n rfl
            have hn1 : k < n := by omega
            have hts : (ByteArray.mk l.toArray).size = l.length := by simp [ByteArray.size]
            have hrt : textRet (some (l, n)) = .tuple #[.string (ByteArray.mk l.toArray), .int .i64 (n : Int), .bool true] := rfl
            rw [hrt]
            clear hrt
            simp only at hst
            generalize (ByteArray.mk l.toArray) = t at *
            by_cases h64 : 64 < l.length
            · have HE := lexGo_err (e := (45, k)) hlt (by rw [hst, if_pos h64]) hinv.eq
              clear hst htl
              go_wp2_with fail
              as_aux_lemma =>
                refine (fail_any 45 (k : Int) (w.heap.size + 1) _ hinv.b1).mono ?_
                rintro e w9 ⟨rfl, hb9, hg9⟩
                have HF2 : Hid (rr = .error (45, k)) := by unfold Hid; rw [HF.out, HE.out]; rfl
                have hbel9 : Below w.heap.size w w9 := below_gr (gr_trans' (gr_below hinv.bel none) hg9 (by simp))
                have hb8 := gr_blk hg9 hinv.b0 (by simp)
                have q0 := blk_cell (l := [_, _]) hb9 0 _ rfl
                have q1 := blk_cell (l := [_, _]) hb9 1 _ rfl
                clear hinv HF HE
                have p0 := blk_cell (l := [_, _]) hb8 0 _ rfl
                have p1 := blk_cell (l := [_, _]) hb8 1 _ rfl
                have pf := blk_free hb8
                go_wp2_with fail
                refine still_tail 2 (by kernel_rfl) (by kernel_rfl) ?_
                simp only [List.take_succ_cons, List.take_zero, List.drop_succ_cons, List.drop_zero]
                repeat still_step
                refine wpStill_nil ?_
                go_wp2_with fail
                rw [Exit.noGoto_ret]
                refine bodyPost_ret (v := .tuple #[.slice none 0 0, .agg #[.int .i64 45, .int .i64 (k : Int)]]) ?_ rfl ⟨by rw [HF2.out]; rfl, ?_⟩
                · have hbF := blk_set (blk_set hb8 0 (.int .i64 45)) 1 (.int .i64 (k : Int))
                  generalize (World.setCell _ _ _) = W at *
                  have c0 := blk_cell (l := [_, _]) hbF 0 _ rfl
                  have c1 := blk_cell (l := [_, _]) hbF 1 _ rfl
                  simp [results, Tryz.results27, go_sem, c0, c1]
                · exact (hbel9.drew.setCell (p := ⟨w.heap.size, 0, none⟩) (Nat.le_refl _) _).setCell (p := ⟨w.heap.size, 1, none⟩) (Nat.le_refl _) _
            · have HE := lexGo_ok (n := n) (ws := [(4, t, k)]) hlt (by rw [hst, if_neg h64]) hn1 hinv.eq
              clear hst htl
              as_aux_lemma =>
                go_wp2_with (at_builtin; refine app1 rfl _ _ 69 116 rfl Tryz.underlying69 (.agg #[.int .i64 0, .string ⟨#[]⟩, .int .i64 0]) 3 32 (by kernel_rfl) rfl (by decide) hinv.own [.int .i64 4, .string t, .int .i64 k] rfl (by first | rfl | (rw [size_set, size_set]; rfl)) rfl (by simp [Value.oneCell']) (by have := hinv.size; omega) (by have := hinv.len; omega) (by have := hinv.len; unfold maxLen; omega) ?_)
                intro v1 w9 hown9 hgr9 _ _
                have hinv9 : LexInv s w r v1 (n) (out ++ [(4, t, k)]) w9 := hinv.push hn1 hn2 HE hown9 hgr9
                clear hinv
                go_wp2_with fail
                go_roundw
                case rel => exact ⟨(n), _, by go_num, hinv9⟩
                case measure => simp [intOf]; omega
        · -- a sign
          rw [hk] at HK
          have hst := lexStep5 hk
          clear hk6 hgk
          go_wp2_with fail
          refine HK.mono ?_
          rintro e w' ⟨rfl, rfl⟩
          clear HK
          have hn2 : k + 1 ≤ s.size := hlt
          have hn1 : k < k + 1 := by omega
          by_cases hn : k + 1 < s.size
          · have hc : ((s[k + 1]'hn).toNat : Int) = (byteAt s (k + 1) : Int) := by rw [byteAt_in s (k + 1) hn]
            by_cases a60 : byteAt s k = 60
            · have hb' : ((s[k]'hlt).toNat : Int) = 60 := by rw [hb, a60]; rfl
              by_cases b62 : byteAt s (k + 1) = 62
              · have hc' : ((s[k + 1]'hn).toNat : Int) = 62 := by rw [hc, b62]; rfl
                have HE := lexGo_ok (n := k + 2) (ws := [(5, s.extract k (k + 2), k)]) hlt (by rw [hst]; simp [twoSign, hn, a60, b62]) (by omega) hinv.eq
                clear hst hb hc
                have hn1 : k < k + 2 := by omega
                have hn2 : k + 2 ≤ s.size := by omega
                as_aux_lemma =>
                  go_wp2_with (at_builtin; refine app1 rfl _ _ 69 116 rfl Tryz.underlying69 (.agg #[.int .i64 0, .string ⟨#[]⟩, .int .i64 0]) 3 32 (by kernel_rfl) rfl (by decide) hinv.own [.int .i64 5, .string (s.extract k (k + 2)), .int .i64 k] rfl (by first | rfl | (rw [size_set, size_set]; rfl)) rfl (by simp [Value.oneCell']) (by have := hinv.size; omega) (by have := hinv.len; omega) (by have := hinv.len; unfold maxLen; omega) ?_)
                  intro v1 w9 hown9 hgr9 _ _
                  have hinv9 : LexInv s w r v1 (k + 2) (out ++ [(5, (s.extract k (k + 2)), k)]) w9 := hinv.push hn1 hn2 HE hown9 hgr9
                  clear hinv
                  go_wp2_with fail
                  go_roundw
                  case rel => exact ⟨(k + 2), _, by go_num, hinv9⟩
                  case measure => simp [intOf]; omega
              · by_cases b61 : byteAt s (k + 1) = 61
                · have hc' : ((s[k + 1]'hn).toNat : Int) = 61 := by rw [hc, b61]; rfl
                  have HE := lexGo_ok (n := k + 2) (ws := [(5, s.extract k (k + 2), k)]) hlt (by rw [hst]; simp [twoSign, hn, a60, b61]) (by omega) hinv.eq
                  clear hst hb hc
                  have hn1 : k < k + 2 := by omega
                  have hn2 : k + 2 ≤ s.size := by omega
                  as_aux_lemma =>
                    go_wp2_with (at_builtin; refine app1 rfl _ _ 69 116 rfl Tryz.underlying69 (.agg #[.int .i64 0, .string ⟨#[]⟩, .int .i64 0]) 3 32 (by kernel_rfl) rfl (by decide) hinv.own [.int .i64 5, .string (s.extract k (k + 2)), .int .i64 k] rfl (by first | rfl | (rw [size_set, size_set]; rfl)) rfl (by simp [Value.oneCell']) (by have := hinv.size; omega) (by have := hinv.len; omega) (by have := hinv.len; unfold maxLen; omega) ?_)
                    intro v1 w9 hown9 hgr9 _ _
                    have hinv9 : LexInv s w r v1 (k + 2) (out ++ [(5, (s.extract k (k + 2)), k)]) w9 := hinv.push hn1 hn2 HE hown9 hgr9
                    clear hinv
                    go_wp2_with fail
                    go_roundw
                    case rel => exact ⟨(k + 2), _, by go_num, hinv9⟩
                    case measure => simp [intOf]; omega
                · have c62 : ((byteAt s (k + 1) : Int) == 62) = false := by simp; omega
                  have c61 : ((byteAt s (k + 1) : Int) == 61) = false := by simp; omega
                  clear hb
                  have HE := lexGo_ok (n := k + 1) (ws := [(5, s.extract k (k + 1), k)]) hlt (by rw [hst]; simp [twoSign, a60, b62, b61]) hn1 hinv.eq
                  clear hst
                  as_aux_lemma =>
                    go_wp2_with (at_builtin; refine app1 rfl _ _ 69 116 rfl Tryz.underlying69 (.agg #[.int .i64 0, .string ⟨#[]⟩, .int .i64 0]) 3 32 (by kernel_rfl) rfl (by decide) hinv.own [.int .i64 5, .string (s.extract k (k + 1)), .int .i64 k] rfl (by first | rfl | (rw [size_set, size_set]; rfl)) rfl (by simp [Value.oneCell']) (by have := hinv.size; omega) (by have := hinv.len; omega) (by have := hinv.len; unfold maxLen; omega) ?_)
                    intro v1 w9 hown9 hgr9 _ _
                    have hinv9 : LexInv s w r v1 (k + 1) (out ++ [(5, (s.extract k (k + 1)), k)]) w9 := hinv.push hn1 hn2 HE hown9 hgr9
                    clear hinv
                    go_wp2_with fail
                    go_roundw
                    case rel => exact ⟨(k + 1), _, by go_num, hinv9⟩
                    case measure => simp [intOf]; omega
            · by_cases a62 : byteAt s k = 62
              · have hb' : ((s[k]'hlt).toNat : Int) = 62 := by rw [hb, a62]; rfl
                by_cases b61 : byteAt s (k + 1) = 61
                · have hc' : ((s[k + 1]'hn).toNat : Int) = 61 := by rw [hc, b61]; rfl
                  have HE := lexGo_ok (n := k + 2) (ws := [(5, s.extract k (k + 2), k)]) hlt (by rw [hst]; simp [twoSign, hn, a62, b61]) (by omega) hinv.eq
                  clear hst hb hc
                  have hn1 : k < k + 2 := by omega
                  have hn2 : k + 2 ≤ s.size := by omega
                  as_aux_lemma =>
                    go_wp2_with (at_builtin; refine app1 rfl _ _ 69 116 rfl Tryz.underlying69 (.agg #[.int .i64 0, .string ⟨#[]⟩, .int .i64 0]) 3 32 (by kernel_rfl) rfl (by decide) hinv.own [.int .i64 5, .string (s.extract k (k + 2)), .int .i64 k] rfl (by first | rfl | (rw [size_set, size_set]; rfl)) rfl (by simp [Value.oneCell']) (by have := hinv.size; omega) (by have := hinv.len; omega) (by have := hinv.len; unfold maxLen; omega) ?_)
                    intro v1 w9 hown9 hgr9 _ _
                    have hinv9 : LexInv s w r v1 (k + 2) (out ++ [(5, (s.extract k (k + 2)), k)]) w9 := hinv.push hn1 hn2 HE hown9 hgr9
                    clear hinv
                    go_wp2_with fail
                    go_roundw
                    case rel => exact ⟨(k + 2), _, by go_num, hinv9⟩
                    case measure => simp [intOf]; omega
                · have c61 : ((byteAt s (k + 1) : Int) == 61) = false := by simp; omega
                  clear hb
                  have HE := lexGo_ok (n := k + 1) (ws := [(5, s.extract k (k + 1), k)]) hlt (by rw [hst]; simp [twoSign, a62, b61]) hn1 hinv.eq
                  clear hst
                  as_aux_lemma =>
                    go_wp2_with (at_builtin; refine app1 rfl _ _ 69 116 rfl Tryz.underlying69 (.agg #[.int .i64 0, .string ⟨#[]⟩, .int .i64 0]) 3 32 (by kernel_rfl) rfl (by decide) hinv.own [.int .i64 5, .string (s.extract k (k + 1)), .int .i64 k] rfl (by first | rfl | (rw [size_set, size_set]; rfl)) rfl (by simp [Value.oneCell']) (by have := hinv.size; omega) (by have := hinv.len; omega) (by have := hinv.len; unfold maxLen; omega) ?_)
                    intro v1 w9 hown9 hgr9 _ _
                    have hinv9 : LexInv s w r v1 (k + 1) (out ++ [(5, (s.extract k (k + 1)), k)]) w9 := hinv.push hn1 hn2 HE hown9 hgr9
                    clear hinv
                    go_wp2_with fail
                    go_roundw
                    case rel => exact ⟨(k + 1), _, by go_num, hinv9⟩
                    case measure => simp [intOf]; omega
              · have d60 : ((byteAt s k : Int) == 60) = false := by simp; omega
                have d62 : ((byteAt s k : Int) == 62) = false := by simp; omega
                have HE := lexGo_ok (n := k + 1) (ws := [(5, s.extract k (k + 1), k)]) hlt (by rw [hst]; simp [twoSign, a60, a62]) hn1 hinv.eq
                clear hst hc
                as_aux_lemma =>
                  go_wp2_with (at_builtin; refine app1 rfl _ _ 69 116 rfl Tryz.underlying69 (.agg #[.int .i64 0, .string ⟨#[]⟩, .int .i64 0]) 3 32 (by kernel_rfl) rfl (by decide) hinv.own [.int .i64 5, .string (s.extract k (k + 1)), .int .i64 k] rfl (by first | rfl | (rw [size_set, size_set]; rfl)) rfl (by simp [Value.oneCell']) (by have := hinv.size; omega) (by have := hinv.len; omega) (by have := hinv.len; unfold maxLen; omega) ?_)
                  intro v1 w9 hown9 hgr9 _ _
                  have hinv9 : LexInv s w r v1 (k + 1) (out ++ [(5, (s.extract k (k + 1)), k)]) w9 := hinv.push hn1 hn2 HE hown9 hgr9
                  clear hinv
                  go_wp2_with fail
                  go_roundw
                  case rel => exact ⟨(k + 1), _, by go_num, hinv9⟩
                  case measure => simp [intOf]; omega
          · have HE := lexGo_ok (n := k + 1) (ws := [(5, s.extract k (k + 1), k)]) hlt (by rw [hst]; simp [twoSign, hn]) hn1 hinv.eq
            clear hst hb
            as_aux_lemma =>
              go_wp2_with (at_builtin; refine app1 rfl _ _ 69 116 rfl Tryz.underlying69 (.agg #[.int .i64 0, .string ⟨#[]⟩, .int .i64 0]) 3 32 (by kernel_rfl) rfl (by decide) hinv.own [.int .i64 5, .string (s.extract k (k + 1)), .int .i64 k] rfl (by first | rfl | (rw [size_set, size_set]; rfl)) rfl (by simp [Value.oneCell']) (by have := hinv.size; omega) (by have := hinv.len; omega) (by have := hinv.len; unfold maxLen; omega) ?_)
              intro v1 w9 hown9 hgr9 _ _
              have hinv9 : LexInv s w r v1 (k + 1) (out ++ [(5, (s.extract k (k + 1)), k)]) w9 := hinv.push hn1 hn2 HE hown9 hgr9
              clear hinv
              go_wp2_with fail
              go_roundw
              case rel => exact ⟨(k + 1), _, by go_num, hinv9⟩
              case measure => simp [intOf]; omega
      · -- the end
        have HE : Hid (r = .ok out) := by unfold Hid; rw [← hinv.eq.out, lexGo, dif_neg hlt]
        have HF2 : Hid (rr = .ok (out ++ [(6, ⟨#[]⟩, s.size)])) := by unfold Hid; rw [HF.out, HE.out]; rfl
        have q0 := blk_cell (l := [_, _]) hinv.b1 0 _ rfl
        have q1 := blk_cell (l := [_, _]) hinv.b1 1 _ rfl
        have hinv2 := hinv
        go_wp2_with (refine app1 rfl _ _ 69 116 rfl Tryz.underlying69 (.agg #[.int .i64 0, .string ⟨#[]⟩, .int .i64 0]) 3 32 (by kernel_rfl) rfl (by decide) hinv.own [.int .i64 6, .string ⟨#[]⟩, .int .i64 s.size] rfl rfl rfl (by simp [Value.oneCell']) (by have := hinv.size; omega) (by have := hinv.len; omega) (by have := hinv.len; unfold maxLen; omega) ?_)
        intro v1 w9 hown9 hgr9 _ hnil
        have hne : ∀ b, u4.ownBlock = some b → w.heap.size + 2 ≤ b := fun b hb => (hinv.own.lt b hb).1
        have hbl9 := hinv.bel.grown hgr9 (by have := hinv.size; omega) (fun b hb => by have := hne b hb; omega)
        have hb8 := gr_blk hgr9 hinv.b0 (fun e => by have := hne _ e.symm; omega)
        obtain ⟨g, c, rfl, hnc⟩ : ∃ g c, v1 = .slice (some ⟨g, 0, none⟩) (out.length + 1) c ∧ out.length + 1 ≤ c := by
          rcases hown9.2 with ⟨h, _⟩ | ⟨g, cap, cur, hv, _, _, hn, _⟩
          · exact absurd h hnil
          · exact ⟨g, cap, hv, hn⟩
        have hrd := Rd.own hown9
        have hlen := hinv.len
        clear hinv hinv2
        go_wp2_with fail
        refine (ClipW_any g (out.length + 1) c w9 hnc (by omega)).mono ?_
        rintro e w' ⟨rfl, rfl⟩
        have p0 := blk_cell (l := [_, _]) hb8 0 _ rfl
        have p1 := blk_cell (l := [_, _]) hb8 1 _ rfl
        have pf := blk_free hb8
        go_wp2_with fail
        rw [Exit.noGoto_ret]
        refine bodyPost_ret (v := .tuple #[.slice (some ⟨g, 0, none⟩) (out.length + 1) (out.length + 1), .agg #[.int .i64 0, .int .i64 0]]) ?_ rfl ⟨?_, ?_⟩
        · have hbF := blk_set (blk_set hb8 0 (.int .i64 0)) 1 (.int .i64 0)
          generalize (World.setCell _ _ _) = W at *
          have c0 := blk_cell (l := [_, _]) hbF 0 _ rfl
          have c1 := blk_cell (l := [_, _]) hbF 1 _ rfl
          simp [results, Tryz.results27, go_sem, c0, c1]
        · rw [HF2.out]
          refine ⟨_, rfl, ?_⟩
          have h1 := hrd.keep (w' := (w9.setCell ⟨w.heap.size, 0, none⟩ (.int .i64 0)).setCell ⟨w.heap.size, 1, none⟩ (.int .i64 0)) (r := some w.heap.size) (gr_setR (p := ⟨w.heap.size, 1, none⟩) (gr_setR (p := ⟨w.heap.size, 0, none⟩) (gr_refl _ _) rfl _) rfl _) (fun k hk => by simp; omega)
          rw [wCells_app, List.length_append]
          exact (h1.clip (by unfold maxLen; omega)).mono (fun k hk => by omega)
        · exact (hbl9.setCell (p := ⟨w.heap.size, 0, none⟩) (Nat.le_refl _) _).setCell (p := ⟨w.heap.size, 1, none⟩) (Nat.le_refl _) _
end Go.Proofs.YtoilgmdfbibniaaGreatDoor
