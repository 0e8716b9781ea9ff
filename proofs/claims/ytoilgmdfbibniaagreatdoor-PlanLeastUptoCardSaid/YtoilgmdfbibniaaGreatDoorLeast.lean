/- caissonlaw19.PlanLeast returns true. -/
import Derived.Test.YtoilgmdfbibniaaGreatDoorLaw
import Derived.Test.YtoilgmdfbibniaaGreatDoorAwake
set_option linter.unusedSimpArgs false
set_option linter.unusedVariables false
set_option maxRecDepth 20000
namespace Go.Proofs.YtoilgmdfbibniaaGreatDoor
open Go Go.RowKit

theorem TestR.mono {F G : Nat → Prop} {w : World} (hFG : ∀ k, F k → G k) : ∀ {v : Value} {t : TT}, TestR F w v t → TestR G w v t
  | v, .nil, h => h
  | v, .node kind l r meas index, ⟨g, o, vl, vr, hv, hf, h0, h1, h2, h3, h4, hl, hr⟩ => ⟨g, o, vl, vr, hv, hFG g hf, h0, h1, h2, h3, h4, TestR.mono hFG hl, TestR.mono hFG hr⟩
theorem infoVI : (Tryz.prog.info? 32).map (fun i => (i.zero, i.size, i.bytes)) = some (some (.agg #[.int .i64 0, .int .i64 0, .int .i64 0, .int .i64 0, .int .i64 0, .int .i64 0]), 6, 48) := by kernel_rfl

/-- what PlanLeast keeps: its boxes -/
structure LSt (w : World) (ap an a av : Option Addr) (np cp nn cn ns cs nv cv : Nat) (pv : Option Addr) (rows head facts : Int) (m : VI) (W : World) : Prop where
  gr : w.grownBy W none
  b : W.heap[w.heap.size]? = some (.cells #[.slice ap np cp, .slice an nn cn, .pointer pv, .slice a ns cs] 27 (0, 0))
  o : W.heap[w.heap.size + 1]? = some (.cells #[.int .i64 rows, .int .i64 head, .int .i64 facts, .slice av nv cv] 30 (0, 0))
  v : W.heap[w.heap.size + 1 + 1]? = some (.cells #[.int .i64 m.set, .int .i64 m.state, .int .i64 m.seq, .int .i64 m.rows, .int .i64 m.bytes, .int .i64 m.readers] 32 (0, 0))
theorem LSt.grow {w : World} {ap an a av : Option Addr} {np cp nn cn ns cs nv cv : Nat} {pv : Option Addr} {rows head facts : Int} {m : VI} {W W' : World}
    (h : LSt w ap an a av np cp nn cn ns cs nv cv pv rows head facts m W) (hg : W.grownBy W' none) : LSt w ap an a av np cp nn cn ns cs nv cv pv rows head facts m W' :=
  ⟨gr_trans h.gr hg, gr_blk hg h.b (by simp), gr_blk hg h.o (by simp), gr_blk hg h.v (by simp)⟩

theorem LSt.growR {w : World} {ap an a av : Option Addr} {np cp nn cn ns cs nv cv : Nat} {pv : Option Addr} {rows head facts : Int} {m : VI} {W W' : World} {r : Option Nat}
    (h : LSt w ap an a av np cp nn cn ns cs nv cv pv rows head facts m W) (hg : W.grownBy W' r) (hr : ∀ b, r = some b → w.heap.size + 1 + 1 < b) : LSt w ap an a av np cp nn cn ns cs nv cv pv rows head facts m W' :=
  ⟨gr_trans' h.gr hg (fun b hb => by have := hr b hb; omega), gr_blk hg h.b (fun e => by have := hr _ e.symm; omega), gr_blk hg h.o (fun e => by have := hr _ e.symm; omega), gr_blk hg h.v (fun e => by have := hr _ e.symm; omega)⟩
set_option maxHeartbeats 4000000 in
theorem PlanLeast_any {F : Nat → Prop} {t : TT} {sets : List Int} {l : List VI} {ap an a av : Option Addr} {np cp nn cn cs cv : Nat} {pv : Option Addr} {rows head facts : Int} {m : VI} {w : World} (hG : Glob w) (hF : ∀ k, F k → k < w.heap.size)
    (ht : TestR F w (.pointer pv) t) (hs : IntsR F w (.slice a sets.length cs) sets) (hv : VIsR F w (.slice av l.length cv) l) (hl : l.length ≤ 1048576) :
    Calls Tryz.prog 3 #[.agg #[.slice ap np cp, .slice an nn cn, .pointer pv, .slice a sets.length cs], .agg #[.int .i64 rows, .int .i64 head, .int .i64 facts, .slice av l.length cv], .agg #[.int .i64 m.set, .int .i64 m.state, .int .i64 m.seq, .int .i64 m.rows, .int .i64 m.bytes, .int .i64 m.readers]] w
      fun e w' => e = .returned (.bool true) ∧ w.grownBy w' none := by
  have HA := fun W (hg : w.grownBy W none) => awake_any (hG.keep hg (by simp))
  have HC := fun W (hg : w.grownBy W none) => Choose_any F t sets l (.slice ap np cp) (.slice an nn cn) (.pointer pv) (.slice a sets.length cs) (.slice av l.length cv) head facts W rfl rfl (fun k hk => Nat.lt_of_lt_of_le (hF k hk) hg.size) (ht.keep hg (by simp)) (Rd.keep hs hg (by simp)) (Rd.keep hv hg (by simp))
  have HN := fun W (hg : w.grownBy W none) => Need_any F t sets (.slice ap np cp) (.slice an nn cn) (.pointer pv) (.slice a sets.length cs) W rfl rfl (fun k hk => Nat.lt_of_lt_of_le (hF k hk) hg.size) (ht.keep hg (by simp)) (Rd.keep hs hg (by simp))
  have HD := fun W (hg : w.grownBy W none) v2 (hv2 : VIsR (· < W.heap.size) W v2 (m :: l)) => Choose_any (· < W.heap.size) t sets (m :: l) (.slice ap np cp) (.slice an nn cn) (.pointer pv) (.slice a sets.length cs) v2 head facts W rfl rfl (fun k hk => hk) (TestR.mono (fun k hk => Nat.lt_of_lt_of_le (hF k hk) hg.size) (ht.keep hg (by simp))) (Rd.mono (Rd.keep hs hg (by simp)) (fun k hk => Nat.lt_of_lt_of_le (hF k hk) hg.size)) hv2
  have L1 : Hid (∀ x ∈ l, (readsT t).2 = false → x.state = 2 → x.seq = head → coversB x.set (needF t sets) = true → x.rows < (ChooseF t sets l head facts).cost → 0 < (ChooseF t sets l head facts).cost → False) := fun x hx h1 h2 h3 h4 h5 h6 => law_loop hx h1 h2 h3 h4 h5 h6
  have L2 : Hid ((ChooseF t sets (m :: l) head facts).cost ≤ (ChooseF t sets l head facts).cost) := law_more t sets l m head facts
  have L3 : Hid ((readsT t).2 = true → (ChooseF t sets l head facts).base = true) := law_base t sets l head facts
  have L4 : Hid ((ChooseF t sets l head facts).base = true ∨ coversB (ChooseF t sets l head facts).set (needF t sets) = true) := law_covers t sets l head facts
  generalize ChooseF t sets (m :: l) head facts = Q at *
  generalize ChooseF t sets l head facts = P at *
  generalize needF t sets = nd at *
  generalize (readsT t).2 = meas at *
  obtain ⟨pb, ps, pc⟩ := P
  obtain ⟨qb, qs, qc⟩ := Q
  simp only [PL.val] at HC HD L1 L2 L3 L4
  have hml : l.length ≤ 9223372036854775807 := by omega
  generalize sets.length = ns at *
  have h3 : LSt w ap an a av np cp nn cn ns cs l.length cv pv rows head facts m (((w.alloc (.cells #[.slice ap np cp, .slice an nn cn, .pointer pv, .slice a ns cs] 27)).alloc (.cells #[.int .i64 rows, .int .i64 head, .int .i64 facts, .slice av l.length cv] 30)).alloc (.cells #[.int .i64 m.set, .int .i64 m.state, .int .i64 m.seq, .int .i64 m.rows, .int .i64 m.bytes, .int .i64 m.readers] 32)) :=
    ⟨gr_alloc (gr_alloc (World.grownBy_alloc _ _ none) _) _, heap_old _ _ _ _ (heap_old _ _ _ _ (heap_new w _ _ rfl)), heap_old _ _ _ _ (heap_new (w.alloc _) _ _ (by simp)), heap_new ((w.alloc _).alloc _) _ _ (by simp)⟩
  clear ht hs
  go_enter Tryz.func3, Tryz.ntmps3
  go_wp2_with fail
  generalize (((w.alloc _).alloc _).alloc _) = w1 at *
  refine (HA w1 h3.gr).mono ?_
  clear HA
  rintro e w2 ⟨rfl, hg2⟩
  have h4 := h3.grow hg2
  clear h3 hg2
  have hb0 := blk_cell (l := [_, _, _, _]) h4.b 0 _ rfl
  have hb1 := blk_cell (l := [_, _, _, _]) h4.b 1 _ rfl
  have hb2 := blk_cell (l := [_, _, _, _]) h4.b 2 _ rfl
  have hb3 := blk_cell (l := [_, _, _, _]) h4.b 3 _ rfl
  have ho1 := blk_cell (l := [_, _, _, _]) h4.o 1 _ rfl
  have ho2 := blk_cell (l := [_, _, _, _]) h4.o 2 _ rfl
  have ho3 := blk_cell (l := [_, _, _, _]) h4.o 3 _ rfl
  have hlv := blk_lt h4.v
  have hlo := blk_lt h4.o
  have hlb := blk_lt h4.b
  go_wp2_with fail
  refine (HC w2 h4.gr).mono ?_
  clear HC
  rintro e w3 ⟨rfl, hg3⟩
  clear hb0 hb1 hb2 hb3 ho1 ho2 ho3 hlv hlo hlb
  have hga := gr_alloc hg3 (.cells #[.bool pb, .int .i64 ps, .int .i64 pc] 35)
  have h5 := h4.grow hga
  have hp5 := heap_new w3 (.cells #[.bool pb, .int .i64 ps, .int .i64 pc] 35) _ rfl
  have hP3 : w.heap.size + 1 + 1 < w3.heap.size := Nat.lt_of_lt_of_le (blk_lt h4.v) hg3.size
  clear h4 hg3 hga
  have hb0 := blk_cell (l := [_, _, _, _]) h5.b 0 _ rfl
  have hb1 := blk_cell (l := [_, _, _, _]) h5.b 1 _ rfl
  have hb2 := blk_cell (l := [_, _, _, _]) h5.b 2 _ rfl
  have hb3 := blk_cell (l := [_, _, _, _]) h5.b 3 _ rfl
  have ho1 := blk_cell (l := [_, _, _, _]) h5.o 1 _ rfl
  have ho2 := blk_cell (l := [_, _, _, _]) h5.o 2 _ rfl
  have ho3 := blk_cell (l := [_, _, _, _]) h5.o 3 _ rfl
  have hlv := blk_lt h5.v
  have hlo := blk_lt h5.o
  have hlb := blk_lt h5.b
  go_wp2_with fail
  generalize (w3.alloc _) = w4 at *
  generalize w3.heap.size = P8 at *
  refine (HN w4 h5.gr).mono ?_
  clear HN
  rintro e w5 ⟨rfl, hg5⟩
  clear hb0 hb1 hb2 hb3 ho1 ho2 ho3 hlv hlo hlb
  have h6 := h5.grow hg5
  have hp6 := gr_blk hg5 hp5 (by simp)
  clear h5 hp5 hg5
  go_wp2_with fail
  go_loopw [11] (fun i wr => ∃ k : Nat, k ≤ l.length ∧ i = .int .i64 k ∧ w5.grownBy wr none) (fun i _ => l.length - (intOf i).toNat)
  case atStart => exact ⟨0, Nat.zero_le _, rfl, gr_refl _ _⟩
  case round =>
    obtain ⟨k, hk, rfl, hgr⟩ := hrel
    have h7 := h6.grow hgr
    have hp7 := gr_blk hgr hp6 (by simp)
    have hv7 : VIsR F wr (.slice av l.length cv) l := Rd.keep hv h7.gr (by simp)
    have hb0 := blk_cell (l := [_, _, _, _]) h7.b 0 _ rfl
    have hb1 := blk_cell (l := [_, _, _, _]) h7.b 1 _ rfl
    have hb2 := blk_cell (l := [_, _, _, _]) h7.b 2 _ rfl
    have hb3 := blk_cell (l := [_, _, _, _]) h7.b 3 _ rfl
    have ho1 := blk_cell (l := [_, _, _, _]) h7.o 1 _ rfl
    have ho2 := blk_cell (l := [_, _, _, _]) h7.o 2 _ rfl
    have ho3 := blk_cell (l := [_, _, _, _]) h7.o 3 _ rfl
    have hlv := blk_lt h7.v
    have hlo := blk_lt h7.o
    have hlb := blk_lt h7.b
    have q0 := blk_cell (l := [_, _, _]) hp7 0 _ rfl
    have q1 := blk_cell (l := [_, _, _]) hp7 1 _ rfl
    have q2 := blk_cell (l := [_, _, _]) hp7 2 _ rfl
    have hql := blk_lt hp7
    by_cases hlt : k < l.length
    · obtain ⟨g, o, rfl, -, hgs, hcell⟩ := Rd.at_ (show Rd F wr (.slice av l.length cv) _ _ from hv7) (j := k * 6) (by rw [viFlat_len]; omega)
      obtain ⟨f0, f1, f2, f3, f4, f5⟩ := viFlat_at l k hlt
      have y0 := hcell _ _ f0
      have y1 := hcell _ _ f1
      have y2 := hcell _ _ f2
      have y3 := hcell _ _ f3
      have y4 := hcell _ _ f4
      have y5 := hcell _ _ f5
      simp only [← Nat.add_assoc] at y1 y2 y3 y4 y5
      have LX := L1.out l[k] (List.getElem_mem hlt)
      clear hcell f0 f1 f2 f3 f4 f5 hv7 hv HD L1 L2 L3 L4 h6 hp6 h7 hp7
      generalize l[k] = x at *
      obtain ⟨x0, x1, x2, x3, x4, x5⟩ := x
      simp only at y0 y1 y2 y3 y4 y5 LX
      have hgk := gr_alloc hgr (.cells #[.int .i64 x0, .int .i64 x1, .int .i64 x2, .int .i64 x3, .int .i64 x4, .int .i64 x5] 32)
      clear hgr
      cases meas
      · replace LX := Lib.hid (LX rfl)
        by_cases e1 : x1 = 2
        · subst e1
          by_cases e2 : x2 = head
          · subst e2
            have e2' : (x2 == x2) = true := by simp
            cases e3 : coversB x0 nd
            · clear LX
              go_wp2_with (go_at_call 8; refine (Covers_any _ _ _).mono ?_; rintro e w' ⟨rfl, rfl⟩)
              go_roundw
              case rel => exact ⟨k + 1, by omega, by go_num, hgk⟩
              case measure => simp [intOf]; omega
            · by_cases e4 : x3 < pc
              · by_cases e5 : 0 < pc
                · exact (LX.out rfl rfl e3 e4 e5).elim
                · clear LX
                  go_wp2_with (go_at_call 8; refine (Covers_any _ _ _).mono ?_; rintro e w' ⟨rfl, rfl⟩)
                  go_roundw
                  case rel => exact ⟨k + 1, by omega, by go_num, hgk⟩
                  case measure => simp [intOf]; omega
              · clear LX
                go_wp2_with (go_at_call 8; refine (Covers_any _ _ _).mono ?_; rintro e w' ⟨rfl, rfl⟩)
                go_roundw
                case rel => exact ⟨k + 1, by omega, by go_num, hgk⟩
                case measure => simp [intOf]; omega
          · have e2' : (x2 == head) = false := by simpa using e2
            clear LX
            go_wp2_with (go_at_call 8; refine (Covers_any _ _ _).mono ?_; rintro e w' ⟨rfl, rfl⟩)
            go_roundw
            case rel => exact ⟨k + 1, by omega, by go_num, hgk⟩
            case measure => simp [intOf]; omega
        · have e1' : (x1 == 2) = false := by simpa using e1
          clear LX
          go_wp2_with (go_at_call 8; refine (Covers_any _ _ _).mono ?_; rintro e w' ⟨rfl, rfl⟩)
          go_roundw
          case rel => exact ⟨k + 1, by omega, by go_num, hgk⟩
          case measure => simp [intOf]; omega
      · clear LX
        go_wp2_with (go_at_call 8; refine (Covers_any _ _ _).mono ?_; rintro e w' ⟨rfl, rfl⟩)
        go_roundw
        case rel => exact ⟨k + 1, by omega, by go_num, hgk⟩
        case measure => simp [intOf]; omega
    · have r0 := blk_cell (l := [_, _, _, _, _, _]) h7.v 0 _ rfl
      have r1 := blk_cell (l := [_, _, _, _, _, _]) h7.v 1 _ rfl
      have r2 := blk_cell (l := [_, _, _, _, _, _]) h7.v 2 _ rfl
      have r3 := blk_cell (l := [_, _, _, _, _, _]) h7.v 3 _ rfl
      have r4 := blk_cell (l := [_, _, _, _, _, _]) h7.v 4 _ rfl
      have r5 := blk_cell (l := [_, _, _, _, _, _]) h7.v 5 _ rfl
      clear hv7 h6 hp6 hgr L1 q0 q1 q2
      go_wp2_with (at_builtin; refine app1 rfl _ _ 28 32 rfl Tryz.underlying28 (.agg #[.int .i64 0, .int .i64 0, .int .i64 0, .int .i64 0, .int .i64 0, .int .i64 0]) 6 48 infoVI rfl (by decide) (World.ownsRow_nil wr wr.heap.size 32 6) [.int .i64 m.set, .int .i64 m.state, .int .i64 m.seq, .int .i64 m.rows, .int .i64 m.bytes, .int .i64 m.readers] rfl rfl rfl (by intro u hu; simp at hu; rcases hu with rfl | rfl | rfl | rfl | rfl | rfl <;> rfl) (Nat.le_refl _) (by omega) (by unfold maxLen; omega) ?_)
      intro v1 w8 hown8 hg8 _ hne8
      have hg8' : wr.grownBy w8 none := hg8
      have h8 := h7.grow hg8'
      have hp8 := gr_blk hg8' hp7 (by simp)
      have hv8 : VIsR F w8 (.slice av l.length cv) l := Rd.keep hv h8.gr (by simp)
      have hsz8 := hg8'.size
      obtain ⟨av1, cv1, rfl⟩ := own_slice hown8
      clear r0 r1 r2 r3 r4 r5 h7 hp7 hg8 hg8'
      clear hb0 hb1 hb2 hb3 ho1 ho2 ho3 hlv hlo hlb
      have hb0 := blk_cell (l := [_, _, _, _]) h8.b 0 _ rfl
      have hb1 := blk_cell (l := [_, _, _, _]) h8.b 1 _ rfl
      have hb2 := blk_cell (l := [_, _, _, _]) h8.b 2 _ rfl
      have hb3 := blk_cell (l := [_, _, _, _]) h8.b 3 _ rfl
      have ho1 := blk_cell (l := [_, _, _, _]) h8.o 1 _ rfl
      have ho2 := blk_cell (l := [_, _, _, _]) h8.o 2 _ rfl
      have ho3 := blk_cell (l := [_, _, _, _]) h8.o 3 _ rfl
      have hlv := blk_lt h8.v
      have hlo := blk_lt h8.o
      have hlb := blk_lt h8.b
      go_wp2_with (at_builtin; refine appN rfl _ _ 28 32 rfl Tryz.underlying28 (.agg #[.int .i64 0, .int .i64 0, .int .i64 0, .int .i64 0, .int .i64 0, .int .i64 0]) 6 48 infoVI rfl (by decide) hown8 hv8 rfl rfl (by rw [viFlat_len]) (by intro u hu; obtain ⟨x, -, hx⟩ := List.mem_flatMap.1 hu; simp [VI.cells] at hx; rcases hx with rfl | rfl | rfl | rfl | rfl | rfl <;> rfl) hsz8 (by omega) (by unfold maxLen; omega) ?_)
      intro v2 w9 hown9 hg9 _ _
      have hb8 := own_base hown8
      have h9 := h8.growR hg9 (fun b hb => by have := hb8 b hb; omega)
      have hp9 := gr_blk hg9 hp8 (fun e => by have := hb8 _ e.symm; omega)
      have hv9 : VIsR (· < w9.heap.size) w9 v2 (m :: l) := by
        have h := Rd.lt2 (Rd.own hown9)
        rw [show 0 + 1 + l.length = (m :: l).length by simp; omega] at h
        unfold VIsR
        rw [List.flatMap_cons]
        exact h
      clear hb0 hb1 hb2 hb3 ho1 ho2 ho3 hlv hlo hlb
      clear h8 hp8 hg9 hv8 hown8 hown9 hb8 hv
      obtain ⟨av2, cv2, rfl, -, -, -⟩ := id hv9
      have HD1 := HD w9 h9.gr _ hv9
      clear HD hv9
      have hb0 := blk_cell (l := [_, _, _, _]) h9.b 0 _ rfl
      have hb1 := blk_cell (l := [_, _, _, _]) h9.b 1 _ rfl
      have hb2 := blk_cell (l := [_, _, _, _]) h9.b 2 _ rfl
      have hb3 := blk_cell (l := [_, _, _, _]) h9.b 3 _ rfl
      have ho1 := blk_cell (l := [_, _, _, _]) h9.o 1 _ rfl
      have ho2 := blk_cell (l := [_, _, _, _]) h9.o 2 _ rfl
      have ho3 := blk_cell (l := [_, _, _, _]) h9.o 3 _ rfl
      have hlv := blk_lt h9.v
      have hlo := blk_lt h9.o
      have hlb := blk_lt h9.b
      go_wp2_with fail
      refine HD1.mono ?_
      clear HD1
      rintro e w10 ⟨rfl, hg10⟩
      clear hb0 hb1 hb2 hb3 ho1 ho2 ho3 hlv hlo hlb
      have hp10 := gr_blk hg10 hp9 (by simp)
      have hgF := gr_alloc (gr_trans h9.gr hg10) (.cells #[.bool qb, .int .i64 qs, .int .i64 qc] 35)
      have q0 := blk_cell (l := [_, _, _]) hp10 0 _ rfl
      have q1 := blk_cell (l := [_, _, _]) hp10 1 _ rfl
      have q2 := blk_cell (l := [_, _, _]) hp10 2 _ rfl
      have hql := blk_lt hp10
      have hle : qc ≤ pc := L2.out
      clear h9 hp9 hp10 hg10 L2
      have L3' := L3.out
      have L4' := L4.out
      clear L3 L4
      cases meas
      · clear L3'
        cases pb
        · have hcv' : coversB ps nd = true := by simpa using L4'
          clear L4'
          go_wp2_with (go_at_call 8; refine (Covers_any _ _ _).mono ?_; rintro e w' ⟨rfl, rfl⟩)
          go_ret
          exact ⟨rfl, hgF⟩
        · clear L4'
          go_wp2_with fail
          go_ret
          exact ⟨rfl, hgF⟩
      · have hb : pb = true := L3' rfl
        subst hb
        clear L3' L4'
        go_wp2_with fail
        go_ret
        exact ⟨rfl, hgF⟩
end Go.Proofs.YtoilgmdfbibniaaGreatDoor
