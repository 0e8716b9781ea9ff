/- package sets: Expand. -/
import Derived.Test.YtoilgmdfbibniaaGreatDoorOwn
import Derived.Test.YtoilgmdfbibniaaGreatDoorHeld
set_option linter.unusedSimpArgs false
set_option linter.unusedVariables false
set_option maxRecDepth 20000
namespace Go.Proofs.YtoilgmdfbibniaaGreatDoor
open Go Go.RowKit

theorem Rd.lt2 {F : Nat → Prop} {w : World} {v : Value} {n : Nat} {cs : List Value} (h : Rd F w v n cs) : Rd (· < w.heap.size) w v n cs := by
  obtain ⟨a, c, hv, hn, hm, h⟩ := h
  refine ⟨a, c, hv, hn, hm, ?_⟩
  rcases h with h | ⟨g, o, ha, hf, h⟩
  · exact .inl h
  · cases cs with
    | nil => exact .inl rfl
    | cons x cs => exact .inr ⟨g, o, ha, World.block_lt_of_cell? w _ (h 0 x rfl), h⟩

theorem notKnown_any {F F' : Nat → Prop} {vd v : Value} {ds l : List ByteArray} {db kb : Nat} {w : World} (hd : StrsR F w vd ds) (hc : w.cell? ⟨db, 0, none⟩ = some vd) (hk : w.cell? ⟨kb, 0, none⟩ = some (.func (.func 89) #[] #[.pointer (some ⟨db, 0, none⟩)])) (hl : StrsR F' w v l) :
    Calls Tryz.prog 92 #[v, .pointer (some ⟨kb, 0, none⟩)] w fun e w' => e = .returned (.bool (!knownB ds l)) ∧ w.grownBy w' none := by
  have H := known_any hd hc hl
  obtain ⟨a, c, rfl, -, -⟩ := hl.slice
  have hgs := World.block_lt_of_cell? w _ hk
  simp only at hgs
  generalize knownB ds l = b at *
  clear hd hl
  go_enter Tryz.func92, Tryz.ntmps92
  go_wp2_with fail
  refine H.mono ?_
  rintro e w' ⟨rfl, hg⟩
  go_wp2_with fail
  go_ret
  exact ⟨by cases b <;> rfl, hg⟩

def badG (ds : List ByteArray) (g : GroupS) : Bool := if g.1 = 4 then g.2.2.any fun s => !knownB ds s else !knownB ds g.2.1
def emptyG (ownF : GroupS → List Int) (g : GroupS) : Bool := decide ((ownF g).length = 0)
def expandF (ds : List ByteArray) (gs : List GroupS) (ownF : GroupS → List Int) : List Int × Int :=
  if (gs.any fun g => !soundB g) = true then ([], 1)
  else if gs.any (badG ds) = true then ([], 42)
  else if gs.any (emptyG ownF) = true then ([], 0)
  else if 64 < (crossG (gs.map ownF) 0 []).length then ([], 46) else (crossG (gs.map ownF) 0 [], 0)

/-- what Expand's loop keeps -/
structure ExSt (w : World) (K : Nat) (vd : Value) (gs : List GroupS) (ownF : GroupS → List Int) (k : Nat) (wr : World) : Prop where
  gr : w.grownBy wr none
  lt : w.heap.size < K
  d : wr.heap[w.heap.size]? = some (.cells #[vd] 23 (0, 0))
  kf : wr.heap[K]? = some (.cells #[.func (.func 89) #[] #[.pointer (some ⟨w.heap.size, 0, none⟩)]] 127 (0, 0))
  e : ∃ (v : Value) (us : List Value), wr.heap[K + 1]? = some (.cells #[v] 156 (0, 0)) ∧ us.length = k ∧ wr.ownsRow (K + 2) 25 1 v k us ∧ ∀ (i : Nat) (u : Value) (g : GroupS), us[i]? = some u → gs[i]? = some g → repInts (K + 2) wr u (ownF g)
theorem infoRow : (Tryz.prog.info? 25).map (fun i => (i.zero, i.size, i.bytes)) = some (some (.slice none 0 0), 1, 24) := by kernel_rfl
theorem ExSt.grow {w : World} {K : Nat} {vd : Value} {gs : List GroupS} {ownF : GroupS → List Int} {k : Nat} {wr w' : World} (h : ExSt w K vd gs ownF k wr) (hg : wr.grownBy w' none) : ExSt w K vd gs ownF k w' := by
  obtain ⟨v, us, h1, h2, h3, h4⟩ := h.e
  refine ⟨gr_trans h.gr hg, h.lt, gr_blk hg h.d (by simp), gr_blk hg h.kf (by simp), v, us, gr_blk hg h1 (by simp), h2, h3.kept (row := none) hg (by cases v.ownBlock <;> simp), fun i u g hu hgg => (h4 i u g hu hgg).keep hg (by simp)⟩

set_option maxHeartbeats 4000000 in
theorem Expand_any {F : Nat → Prop} {vd vg : Value} {ds : List ByteArray} {gs : List GroupS} {ownF : GroupS → List Int} {w : World} (hd : StrsR F w vd ds) (hg : GroupsR F w vg gs) (hds : ds.length ≤ 6) (hgl : gs.length ≤ 100)
    (HO : ∀ g ∈ gs, ∀ W vc vs, w.grownBy W none → StrsR F W vc g.2.1 → RowsR F W vs g.2.2 → Calls Tryz.prog 93 #[vd, .agg #[.int .i64 (g.1 : Int), vc, vs]] W fun e w' => ∃ u, e = .returned u ∧ repInts W.heap.size w' u (ownF g) ∧ W.grownBy w' none) :
    Calls Tryz.prog 40 #[vd, vg] w fun e w' => ∃ u, e = .returned (.tuple #[u, .int .i64 (expandF ds gs ownF).2]) ∧ IntsR (w.heap.size ≤ ·) w' u (expandF ds gs ownF).1 ∧ w.grownBy w' none := by
  have HS : Hid (expandF ds gs ownF = if (gs.any fun g => !soundB g) = true then ([], 1)
    else if gs.any (badG ds) = true then ([], 42)
    else if gs.any (emptyG ownF) = true then ([], 0)
    else if 64 < (crossG (gs.map ownF) 0 []).length then ([], 46) else (crossG (gs.map ownF) 0 [], 0)) := rfl
  generalize expandF ds gs ownF = r at *
  obtain ⟨ad, cd, rfl, hdc, hdm⟩ := hd.slice
  obtain ⟨ag, cg, rfl, hgc, hgm⟩ := hg.slice
  unfold maxLen at hdm hgm
  have hg1 := World.grownBy_alloc w (.cells #[.slice ad ds.length cd] 23) none
  have b1 := heap_new w (.cells #[.slice ad ds.length cd] 23) _ rfl
  have HC := ContainsFunc_G 87 (fun args w => by kernel_rfl) (fun g => !soundB g) (hg.keep hg1 (by simp)) (fun W vc vs s _ _ h1 h2 => notSound_any h1 h2)
  generalize (gs.any fun g => !soundB g) = b0 at *
  cases b0
  · have HS2 : Hid (r = if gs.any (badG ds) = true then ([], 42)
      else if gs.any (emptyG ownF) = true then ([], 0)
      else if 64 < (crossG (gs.map ownF) 0 []).length then ([], 46) else (crossG (gs.map ownF) 0 [], 0)) := by unfold Hid; rw [HS.out, if_neg (by simp)]
    clear HS
    go_enter Tryz.func40, Tryz.ntmps40
    go_wp2_with fail
    generalize (w.alloc _) = W at *
    refine HC.mono ?_
    clear HC
    rintro e w2 ⟨rfl, hg2⟩
    have b2 := gr_blk hg2 b1 (by simp)
    have hg02 := gr_trans hg1 hg2
    clear b1 hg1 hg2
    have hsz2 := blk_lt b2
    have hga := gr_alloc (gr_alloc hg02 (.cells #[.func (.func 89) #[] #[.pointer (some ⟨w.heap.size, 0, none⟩)]] 127)) (.cells #[.slice none 0 0] 156)
    have hst0 : ExSt w w2.heap.size (.slice ad ds.length cd) gs ownF 0 ((w2.alloc (.cells #[.func (.func 89) #[] #[.pointer (some ⟨w.heap.size, 0, none⟩)]] 127)).alloc (.cells #[.slice none 0 0] 156)) :=
      ⟨hga, hsz2, heap_old _ _ _ _ (heap_old _ _ _ _ b2), heap_old _ _ _ _ (heap_new _ _ _ rfl), .slice none 0 0, [], heap_new _ _ _ (by simp), rfl, World.ownsRow_nil _ _ _ _, by simp⟩
    clear hga
    go_wp2_with fail
    generalize ((w2.alloc _).alloc _) = W0 at *
    generalize w2.heap.size = K at *
    go_loopw [8, 23] (fun f i wr => ∃ k : Nat, k ≤ gs.length ∧ i = .int .i64 k ∧ f = .bool ((gs.take k).any (emptyG ownF)) ∧ Hid ((gs.take k).any (badG ds) = false) ∧ ExSt w K (.slice ad ds.length cd) gs ownF k wr) (fun _ i _ => gs.length - (intOf i).toNat)
    case atStart => exact ⟨0, Nat.zero_le _, rfl, rfl, rfl, hst0⟩
    case round =>
      clear hst0 b2 hg02
      obtain ⟨k, hk, rfl, rfl, HB, hst⟩ := hrel
      by_cases hlt : k < gs.length
      · have HO := HO gs[k] (List.getElem_mem hlt)
        obtain ⟨g, o, vc, vs, rfl, hgs, c0, c1, c2, hvc, hvs⟩ := (hg.keep hst.gr (by simp)).at_ hlt
        have HB1 : Hid ((gs.take (k + 1)).any (badG ds) = badG ds gs[k]) := by
          unfold Hid; rw [List.take_succ_eq_append_getElem hlt, List.any_append, HB.out]; simp
        have HBad : badG ds gs[k] = true → Hid (r = ([], 42)) := fun h => by
          unfold Hid; rw [HS2.out, if_pos (List.any_eq_true.2 ⟨gs[k], List.getElem_mem hlt, h⟩)]
        have HBd : Hid (badG ds gs[k] = if gs[k].1 = 4 then gs[k].2.2.any fun s => !knownB ds s else !knownB ds gs[k].2.1) := rfl
        obtain ⟨ac1, cc1, rfl, -, -⟩ := hvc.slice
        obtain ⟨as1, cs1, rfl, -, -⟩ := hvs.slice
        have hga := World.grownBy_alloc wr (.cells #[.int .i64 (gs[k].1 : Int), .slice ac1 gs[k].2.1.length cc1, .slice as1 gs[k].2.2.length cs1] 91) none
        have hgb := heap_new wr (.cells #[.int .i64 (gs[k].1 : Int), .slice ac1 gs[k].2.1.length cc1, .slice as1 gs[k].2.2.length cs1] 91) _ rfl
        have hst1 := hst.grow hga
        have kf0 := blk_cell (l := [_]) hst.kf 0 _ rfl
        have hKs := blk_lt hst.kf
        have hds2 := hd.keep hst1.gr (by simp)
        have hc2 := blk_cell (l := [_]) hst1.d 0 _ rfl
        clear HS2 HB hg hst
        by_cases h4 : gs[k].1 = 4
        · have h4' : ((gs[k].1 : Int) != 4) = false := by simp; omega
          have h4'' : ((gs[k].1 : Int) == 4) = true := by simp; omega
          have HBd2 : Hid (badG ds gs[k] = gs[k].2.2.any fun s => !knownB ds s) := by unfold Hid; rw [HBd.out, if_pos h4]
          have kf1 := blk_cell (l := [_]) hst1.kf 0 _ rfl
          have HKn := ContainsFunc_R1 92 (.pointer (some ⟨K, 0, none⟩)) (fun args w => by kernel_rfl) (fun s => !knownB ds s) (hvs.keep hga (by simp)) (fun W a n c s hg2 _ hs => notKnown_any (hds2.keep hg2 (by simp)) (gr_cell hg2 hc2 (by simp)) (gr_cell hg2 kf1 (by simp)) hs)
          clear HBd kf1 h4
          generalize (gs[k].2.2.any fun s => !knownB ds s) = kn at *
          cases kn
          · have HB2 : Hid ((gs.take (k + 1)).any (badG ds) = false) := by unfold Hid; rw [HB1.out, HBd2.out]
            clear HBad HB1 HBd2
            go_wp2_with fail
            refine HKn.mono ?_
            clear HKn
            rintro e w2 ⟨rfl, hg2⟩
            have hst2 := hst1.grow hg2
            have hgb2 := gr_blk hg2 hgb (by simp)
            have hgr := gr_trans hga hg2
            clear hst1 hgb hga hg2 kf0 hds2 hc2 c0 c1 c2
            -- the row, appended
            obtain ⟨ve, us, he, hul, hown, hreps⟩ := hst2.e
            have hlv : ∃ ao co, ve = .slice ao k co := by
              rcases hown.2 with ⟨rfl, h⟩ | ⟨g, cap, cur, rfl, _⟩
              · exact ⟨none, 0, by rw [h]⟩
              · exact ⟨_, _, rfl⟩
            obtain ⟨ao, co, rfl⟩ := hlv
            have e0 := blk_cell (l := [_]) he 0 _ rfl
            have d0 := blk_cell (l := [_]) hst2.d 0 _ rfl
            have g0 := blk_cell (l := [_, _, _]) hgb2 0 _ rfl
            have g1 := blk_cell (l := [_, _, _]) hgb2 1 _ rfl
            have g2 := blk_cell (l := [_, _, _]) hgb2 2 _ rfl
            have hes := blk_lt he
            have hds := blk_lt hst2.d
            have hgs2 := blk_lt hgb2
            go_wp2_with fail
            refine head_held 5 (fun W => W.cell? ⟨K + 1, 0, none⟩ = some (.slice ao k co) ∧ W.cell? ⟨w.heap.size, 0, none⟩ = some (.slice ad ds.length cd) ∧ W.cell? ⟨wr.heap.size, 0, none⟩ = some (.int .i64 (gs[k].1 : Int)) ∧ W.cell? ⟨wr.heap.size, 1, none⟩ = some (.slice ac1 gs[k].2.1.length cc1) ∧ W.cell? ⟨wr.heap.size, 2, none⟩ = some (.slice as1 gs[k].2.2.length cs1)) (by kernel_rfl) (by kernel_rfl) ?_
            have hst2 := hst2.grow (gr_drew (gr_refl w2 _))
            have hS0 : w2.drew.cell? ⟨K + 1, 0, none⟩ = some (.slice ao k co) ∧ w2.drew.cell? ⟨w.heap.size, 0, none⟩ = some (.slice ad ds.length cd) ∧ w2.drew.cell? ⟨wr.heap.size, 0, none⟩ = some (.int .i64 (gs[k].1 : Int)) ∧ w2.drew.cell? ⟨wr.heap.size, 1, none⟩ = some (.slice ac1 gs[k].2.1.length cc1) ∧ w2.drew.cell? ⟨wr.heap.size, 2, none⟩ = some (.slice as1 gs[k].2.2.length cs1) := ⟨e0, d0, g0, g1, g2⟩
            have HO1 := HO w2.drew _ _ hst2.gr (hvc.keep (gr_trans hgr (gr_drew (gr_refl w2 none))) (by simp)) (hvs.keep (gr_trans hgr (gr_drew (gr_refl w2 none))) (by simp))
            clear he hown hreps hul e0 d0 g0 g1 g2
            obtain ⟨ve, us, he, hul, hown, hreps⟩ := hst2.e
            obtain rfl : ve = .slice ao k co := by
              have h := blk_cell (l := [_]) he 0 _ rfl
              rw [hS0.1] at h
              exact (Option.some.inj h).symm
            generalize w2.drew = w2d at *
            refine KG.take 0 (.slice ao k co) rfl (by omega) (by kernel_rfl) (by kernel_rfl) (fun _ _ _ h => h) hS0 (by kernel_rfl) (fun W hS => ?_) ?_
            · obtain ⟨s0, s1, s2, s3, s4⟩ := hS
              go_simp
            refine KG.take 1 (.slice ad ds.length cd) rfl (by omega) (by kernel_rfl) (by kernel_rfl) (fun _ _ _ h => h) hS0 (by kernel_rfl) (fun W hS => ?_) ?_
            · obtain ⟨s0, s1, s2, s3, s4⟩ := hS
              go_simp
            refine KG.take 2 (.agg #[.int .i64 (gs[k].1 : Int), .slice ac1 gs[k].2.1.length cc1, .slice as1 gs[k].2.2.length cs1]) rfl (by omega) (by kernel_rfl) (by kernel_rfl) (fun _ _ _ h => h) hS0 (by kernel_rfl) (fun W hS => ?_) ?_
            · obtain ⟨s0, s1, s2, s3, s4⟩ := hS
              go_simp
            refine KG.one 3 rfl (by omega) (by kernel_rfl) (by kernel_rfl) (fun K2 hK2 => ?_)
            go_simp
            refine HO1.mono ?_
            clear HO1 HO hvc hvs hgr hgb2
            rintro e w3 ⟨u, rfl, hu, hg3⟩
            have hst3 := hst2.grow hg3
            have hown3 := hown.kept (row := none) hg3 (by simp [Value.ownBlock]; cases ao <;> simp)
            have hreps3 : ∀ (i : Nat) (u : Value) (g : GroupS), us[i]? = some u → gs[i]? = some g → repInts (K + 2) w3 u (ownF g) := fun i u g hu hgg => (hreps i u g hu hgg).keep hg3 (by simp)
            have he3 := gr_blk hg3 he (by simp)
            have hsz3 := hst3.gr.size
            have hgr3 := hst3.gr
            have hu3 := hu.mono (B' := K + 2) (by have := blk_lt he; omega)
            have hd3 := hst3.d
            have hk3 := hst3.kf
            have hltK := hst3.lt
            obtain ⟨au, nu, cu, rfl, hnu⟩ : ∃ au nu cu, u = .slice au nu cu ∧ nu = (ownF gs[k]).length := by obtain ⟨a, c, e, _⟩ := hu; exact ⟨a, _, c, e, rfl⟩
            have HNU := Lib.hid hnu
            have hS3 : w3.cell? ⟨K + 1, 0, none⟩ = some (.slice ao k co) ∧ w3.cell? ⟨w.heap.size, 0, none⟩ = some (.slice ad ds.length cd) ∧ w3.cell? ⟨wr.heap.size, 0, none⟩ = some (.int .i64 (gs[k].1 : Int)) ∧ w3.cell? ⟨wr.heap.size, 1, none⟩ = some (.slice ac1 gs[k].2.1.length cc1) ∧ w3.cell? ⟨wr.heap.size, 2, none⟩ = some (.slice as1 gs[k].2.2.length cs1) :=
              ⟨gr_cell hg3 hS0.1 (by simp), gr_cell hg3 hS0.2.1 (by simp), gr_cell hg3 hS0.2.2.1 (by simp), gr_cell hg3 hS0.2.2.2.1 (by simp), gr_cell hg3 hS0.2.2.2.2 (by simp)⟩
            clear hnu hu hst2 hst3 hg3 hown hreps he hS0
            refine hK2 _ _ hS3 ?_
            clear hK2 K2
            refine KG.one 4 rfl (by omega) (by kernel_rfl) (by kernel_rfl) (fun K2 hK2 => ?_)
            go_simp
            have hgb := World.grownBy_alloc w3 (.cells #[.slice au nu cu] 25) none
            refine hK2 _ _ ⟨gr_cell hgb hS3.1 (by simp), gr_cell hgb hS3.2.1 (by simp), gr_cell hgb hS3.2.2.1 (by simp), gr_cell hgb hS3.2.2.2.1 (by simp), gr_cell hgb hS3.2.2.2.2 (by simp)⟩ ?_
            clear hK2 K2 hS3 hgb
            refine KG.done (by kernel_rfl) ?_
            simp only [List.drop_succ_cons, List.drop_zero]
            have hes3 := blk_lt he3
            go_wp2_with (at_builtin; refine app1 rfl _ _ 156 25 rfl Tryz.underlying156 (.slice none 0 0) 1 24 infoRow rfl (by decide) hown3 [.slice au nu cu] rfl rfl rfl (by intro u hu; simp at hu; subst hu; rfl) (by omega) (by omega) (by unfold maxLen; omega) ?_)
            intro v4 w4 hown4 hg4 hat4 hne4
            have hty := tyOf_own hown3
            have hbase := own_base hown3
            have he4 := gr_blk hg4 he3 (fun e => by have := hbase _ e.symm; omega)
            have hd4 := gr_blk hg4 hd3 (fun e => by have := hbase _ e.symm; omega)
            have hk4 := gr_blk hg4 hk3 (fun e => by have := hbase _ e.symm; omega)
            have hgr4 := gr_trans' hgr3 hg4 (fun b hb => by have := hbase b hb; omega)
            have hnt : ∀ b, (Value.slice ao k co).ownBlock = some b → tyOf w3 b ≠ some 3 := fun b hb e => by rw [hty b hb] at e; cases e
            have hreps4 : ∀ (i : Nat) (u : Value) (g : GroupS), (us ++ [.slice au nu cu])[i]? = some u → gs[i]? = some g → repInts (K + 2) w4 u (ownF g) := by
              intro i u g hu hgg
              by_cases hi : i < us.length
              · rw [List.getElem?_append_left hi] at hu
                exact (hreps3 i u g hu hgg).keep hg4 hnt
              · rw [List.getElem?_append_right (by omega)] at hu
                have h0 : i - us.length = 0 := by
                  have := (List.getElem?_eq_some_iff.1 hu).1
                  simp at this; omega
                rw [h0] at hu
                simp at hu
                subst hu
                obtain rfl : i = k := by omega
                rw [List.getElem?_eq_getElem hlt] at hgg
                obtain rfl := Option.some.inj hgg
                exact hu3.keep hg4 hnt
            obtain ⟨g4, c4, rfl⟩ : ∃ g c, v4 = .slice (some ⟨g, 0, none⟩) (k + 1) c := by
              rcases hown4.2 with ⟨h, _⟩ | ⟨g, cap, cur, h, _⟩
              · exact absurd h hne4
              · exact ⟨g, cap, h⟩
            have hcell4 := hown4.cells (g := g4) rfl k (.slice au nu cu) (by rw [List.getElem?_append_right (by omega), hul, Nat.sub_self]; rfl)
            rw [show (⟨g4, 0, none⟩ : Addr).add k = ⟨g4, 0 + k, none⟩ by unfold Addr.add; split <;> simp_all, Nat.zero_add] at hcell4
            have hb4 := own_base hown4 g4 rfl
            have hlt4 := own_lt hown4 g4 rfl
            have p0 := blk_cell (l := [_]) he4 0 _ rfl
            have pf := blk_free he4
            have hes4 := blk_lt he4
            have hgE := gr_setR (p := ⟨K + 1, 0, none⟩) (gr_refl w4 (some (K + 1))) rfl (.slice (some ⟨g4, 0, none⟩) (k + 1) c4)
            have htE : tyOf w4 (K + 1) = some 156 := by unfold tyOf; rw [he4]
            have hst5 : ExSt w K (.slice ad ds.length cd) gs ownF (k + 1) (w4.setCell ⟨K + 1, 0, none⟩ (.slice (some ⟨g4, 0, none⟩) (k + 1) c4)) :=
              ⟨gr_set (p := ⟨K + 1, 0, none⟩) hgr4 (by show w.heap.size ≤ K + 1; omega) _, hltK, blk_set_ne hd4 (by omega) _ _, blk_set_ne hk4 (by omega) _ _, _, _, blk_set he4 0 _, by simp [hul], hown4.kept (row := some (K + 1)) hgE (.inr (by simp [Value.ownBlock]; omega)), fun i u g hu hgg => (hreps4 i u g hu hgg).keep hgE (fun b e => by cases e; rw [htE]; simp)⟩
            have hcell5 := cell_set_ne (g' := K + 1) (o' := 0) (.slice (some ⟨g4, 0, none⟩) (k + 1) c4) hcell4 (.inl (by omega))
            have hw1 : wrap64 ((k : Int) + 1 - 1) = (k : Int) := by unfold wrap64; omega
            clear hreps3 hreps4 hown3 hown4 hg4 hat4 hgr4 he3 hd3 hk3 hd4 hk4 hgE htE hty hbase hnt hu3 hcell4
            by_cases hf : (gs.take k).any (emptyG ownF) = true
            · have HF : Hid ((gs.take (k + 1)).any (emptyG ownF) = true) := by
                unfold Hid; rw [List.take_succ_eq_append_getElem hlt, List.any_append, hf]; rfl
              rw [hf]
              clear hf hw1
              go_wp2_with fail
              go_roundw
              case rel => exact ⟨k + 1, by omega, by go_num, by rw [HF.out], HB2, hst5⟩
              case measure => simp [intOf]; omega
            · have hff : (gs.take k).any (emptyG ownF) = false := by simpa using hf
              have HF : Hid ((gs.take (k + 1)).any (emptyG ownF) = decide (nu = 0)) := by
                unfold Hid; rw [List.take_succ_eq_append_getElem hlt, List.any_append, hff, HNU.out]; simp [emptyG]
              rw [hff]
              clear hf hff hw1
              by_cases hn : nu = 0
              · subst hn
                go_wp2_with fail
                go_roundw
                case rel => exact ⟨k + 1, by omega, by go_num, by rw [HF.out]; rfl, HB2, hst5⟩
                case measure => simp [intOf]; omega
              · have hn' : ((nu : Int) == 0) = false := by simp; omega
                go_wp2_with fail
                go_roundw
                case rel => exact ⟨k + 1, by omega, by go_num, by rw [HF.out]; simp [hn], HB2, hst5⟩
                case measure => simp [intOf]; omega
          · have HR := HBad (by rw [HBd2.out])
            clear HBad HB1 HBd2 HO
            go_wp2_with fail
            refine HKn.mono ?_
            rintro e w2 ⟨rfl, hg2⟩
            go_wp2_with fail
            go_ret2
            exact ⟨_, by rw [HR.out]; rfl, by rw [HR.out]; exact Rd.nil _ _, gr_trans hst1.gr hg2⟩
        · have h4' : ((gs[k].1 : Int) != 4) = true := by simp; omega
          have HBd2 : Hid (badG ds gs[k] = !knownB ds gs[k].2.1) := by unfold Hid; rw [HBd.out, if_neg h4]
          have HKn := known_any hds2 hc2 (hvc.keep hga (by simp))
          clear HBd
          generalize knownB ds gs[k].2.1 = kn at *
          cases kn
          · have HR := HBad (by rw [HBd2.out]; rfl)
            clear HBad HB1 HBd2 HO
            go_wp2_with fail
            refine HKn.mono ?_
            rintro e w2 ⟨rfl, hg2⟩
            go_wp2_with fail
            go_ret2
            exact ⟨_, by rw [HR.out]; rfl, by rw [HR.out]; exact Rd.nil _ _, gr_trans hst1.gr hg2⟩
          · have HB2 : Hid ((gs.take (k + 1)).any (badG ds) = false) := by unfold Hid; rw [HB1.out, HBd2.out]; rfl
            have h4'' : ((gs[k].1 : Int) == 4) = false := by simp; omega
            clear HBad HB1 HBd2
            go_wp2_with fail
            refine HKn.mono ?_
            clear HKn
            rintro e w2 ⟨rfl, hg2⟩
            have hst2 := hst1.grow hg2
            have hgb2 := gr_blk hg2 hgb (by simp)
            have hgr := gr_trans hga hg2
            clear hst1 hgb hga hg2 kf0 hds2 hc2 c0 c1 c2
            -- the row, appended
            obtain ⟨ve, us, he, hul, hown, hreps⟩ := hst2.e
            have hlv : ∃ ao co, ve = .slice ao k co := by
              rcases hown.2 with ⟨rfl, h⟩ | ⟨g, cap, cur, rfl, _⟩
              · exact ⟨none, 0, by rw [h]⟩
              · exact ⟨_, _, rfl⟩
            obtain ⟨ao, co, rfl⟩ := hlv
            have e0 := blk_cell (l := [_]) he 0 _ rfl
            have d0 := blk_cell (l := [_]) hst2.d 0 _ rfl
            have g0 := blk_cell (l := [_, _, _]) hgb2 0 _ rfl
            have g1 := blk_cell (l := [_, _, _]) hgb2 1 _ rfl
            have g2 := blk_cell (l := [_, _, _]) hgb2 2 _ rfl
            have hes := blk_lt he
            have hds := blk_lt hst2.d
            have hgs2 := blk_lt hgb2
            go_wp2_with fail
            refine head_held 5 (fun W => W.cell? ⟨K + 1, 0, none⟩ = some (.slice ao k co) ∧ W.cell? ⟨w.heap.size, 0, none⟩ = some (.slice ad ds.length cd) ∧ W.cell? ⟨wr.heap.size, 0, none⟩ = some (.int .i64 (gs[k].1 : Int)) ∧ W.cell? ⟨wr.heap.size, 1, none⟩ = some (.slice ac1 gs[k].2.1.length cc1) ∧ W.cell? ⟨wr.heap.size, 2, none⟩ = some (.slice as1 gs[k].2.2.length cs1)) (by kernel_rfl) (by kernel_rfl) ?_
            have hst2 := hst2.grow (gr_drew (gr_refl w2 _))
            have hS0 : w2.drew.cell? ⟨K + 1, 0, none⟩ = some (.slice ao k co) ∧ w2.drew.cell? ⟨w.heap.size, 0, none⟩ = some (.slice ad ds.length cd) ∧ w2.drew.cell? ⟨wr.heap.size, 0, none⟩ = some (.int .i64 (gs[k].1 : Int)) ∧ w2.drew.cell? ⟨wr.heap.size, 1, none⟩ = some (.slice ac1 gs[k].2.1.length cc1) ∧ w2.drew.cell? ⟨wr.heap.size, 2, none⟩ = some (.slice as1 gs[k].2.2.length cs1) := ⟨e0, d0, g0, g1, g2⟩
            have HO1 := HO w2.drew _ _ hst2.gr (hvc.keep (gr_trans hgr (gr_drew (gr_refl w2 none))) (by simp)) (hvs.keep (gr_trans hgr (gr_drew (gr_refl w2 none))) (by simp))
            clear he hown hreps hul e0 d0 g0 g1 g2
            obtain ⟨ve, us, he, hul, hown, hreps⟩ := hst2.e
            obtain rfl : ve = .slice ao k co := by
              have h := blk_cell (l := [_]) he 0 _ rfl
              rw [hS0.1] at h
              exact (Option.some.inj h).symm
            generalize w2.drew = w2d at *
            refine KG.take 0 (.slice ao k co) rfl (by omega) (by kernel_rfl) (by kernel_rfl) (fun _ _ _ h => h) hS0 (by kernel_rfl) (fun W hS => ?_) ?_
            · obtain ⟨s0, s1, s2, s3, s4⟩ := hS
              go_simp
            refine KG.take 1 (.slice ad ds.length cd) rfl (by omega) (by kernel_rfl) (by kernel_rfl) (fun _ _ _ h => h) hS0 (by kernel_rfl) (fun W hS => ?_) ?_
            · obtain ⟨s0, s1, s2, s3, s4⟩ := hS
              go_simp
            refine KG.take 2 (.agg #[.int .i64 (gs[k].1 : Int), .slice ac1 gs[k].2.1.length cc1, .slice as1 gs[k].2.2.length cs1]) rfl (by omega) (by kernel_rfl) (by kernel_rfl) (fun _ _ _ h => h) hS0 (by kernel_rfl) (fun W hS => ?_) ?_
            · obtain ⟨s0, s1, s2, s3, s4⟩ := hS
              go_simp
            refine KG.one 3 rfl (by omega) (by kernel_rfl) (by kernel_rfl) (fun K2 hK2 => ?_)
            go_simp
            refine HO1.mono ?_
            clear HO1 HO hvc hvs hgr hgb2
            rintro e w3 ⟨u, rfl, hu, hg3⟩
            have hst3 := hst2.grow hg3
            have hown3 := hown.kept (row := none) hg3 (by simp [Value.ownBlock]; cases ao <;> simp)
            have hreps3 : ∀ (i : Nat) (u : Value) (g : GroupS), us[i]? = some u → gs[i]? = some g → repInts (K + 2) w3 u (ownF g) := fun i u g hu hgg => (hreps i u g hu hgg).keep hg3 (by simp)
            have he3 := gr_blk hg3 he (by simp)
            have hsz3 := hst3.gr.size
            have hgr3 := hst3.gr
            have hu3 := hu.mono (B' := K + 2) (by have := blk_lt he; omega)
            have hd3 := hst3.d
            have hk3 := hst3.kf
            have hltK := hst3.lt
            obtain ⟨au, nu, cu, rfl, hnu⟩ : ∃ au nu cu, u = .slice au nu cu ∧ nu = (ownF gs[k]).length := by obtain ⟨a, c, e, _⟩ := hu; exact ⟨a, _, c, e, rfl⟩
            have HNU := Lib.hid hnu
            have hS3 : w3.cell? ⟨K + 1, 0, none⟩ = some (.slice ao k co) ∧ w3.cell? ⟨w.heap.size, 0, none⟩ = some (.slice ad ds.length cd) ∧ w3.cell? ⟨wr.heap.size, 0, none⟩ = some (.int .i64 (gs[k].1 : Int)) ∧ w3.cell? ⟨wr.heap.size, 1, none⟩ = some (.slice ac1 gs[k].2.1.length cc1) ∧ w3.cell? ⟨wr.heap.size, 2, none⟩ = some (.slice as1 gs[k].2.2.length cs1) :=
              ⟨gr_cell hg3 hS0.1 (by simp), gr_cell hg3 hS0.2.1 (by simp), gr_cell hg3 hS0.2.2.1 (by simp), gr_cell hg3 hS0.2.2.2.1 (by simp), gr_cell hg3 hS0.2.2.2.2 (by simp)⟩
            clear hnu hu hst2 hst3 hg3 hown hreps he hS0
            refine hK2 _ _ hS3 ?_
            clear hK2 K2
            refine KG.one 4 rfl (by omega) (by kernel_rfl) (by kernel_rfl) (fun K2 hK2 => ?_)
            go_simp
            have hgb := World.grownBy_alloc w3 (.cells #[.slice au nu cu] 25) none
            refine hK2 _ _ ⟨gr_cell hgb hS3.1 (by simp), gr_cell hgb hS3.2.1 (by simp), gr_cell hgb hS3.2.2.1 (by simp), gr_cell hgb hS3.2.2.2.1 (by simp), gr_cell hgb hS3.2.2.2.2 (by simp)⟩ ?_
            clear hK2 K2 hS3 hgb
            refine KG.done (by kernel_rfl) ?_
            simp only [List.drop_succ_cons, List.drop_zero]
            have hes3 := blk_lt he3
            go_wp2_with (at_builtin; refine app1 rfl _ _ 156 25 rfl Tryz.underlying156 (.slice none 0 0) 1 24 infoRow rfl (by decide) hown3 [.slice au nu cu] rfl rfl rfl (by intro u hu; simp at hu; subst hu; rfl) (by omega) (by omega) (by unfold maxLen; omega) ?_)
            intro v4 w4 hown4 hg4 hat4 hne4
            have hty := tyOf_own hown3
            have hbase := own_base hown3
            have he4 := gr_blk hg4 he3 (fun e => by have := hbase _ e.symm; omega)
            have hd4 := gr_blk hg4 hd3 (fun e => by have := hbase _ e.symm; omega)
            have hk4 := gr_blk hg4 hk3 (fun e => by have := hbase _ e.symm; omega)
            have hgr4 := gr_trans' hgr3 hg4 (fun b hb => by have := hbase b hb; omega)
            have hnt : ∀ b, (Value.slice ao k co).ownBlock = some b → tyOf w3 b ≠ some 3 := fun b hb e => by rw [hty b hb] at e; cases e
            have hreps4 : ∀ (i : Nat) (u : Value) (g : GroupS), (us ++ [.slice au nu cu])[i]? = some u → gs[i]? = some g → repInts (K + 2) w4 u (ownF g) := by
              intro i u g hu hgg
              by_cases hi : i < us.length
              · rw [List.getElem?_append_left hi] at hu
                exact (hreps3 i u g hu hgg).keep hg4 hnt
              · rw [List.getElem?_append_right (by omega)] at hu
                have h0 : i - us.length = 0 := by
                  have := (List.getElem?_eq_some_iff.1 hu).1
                  simp at this; omega
                rw [h0] at hu
                simp at hu
                subst hu
                obtain rfl : i = k := by omega
                rw [List.getElem?_eq_getElem hlt] at hgg
                obtain rfl := Option.some.inj hgg
                exact hu3.keep hg4 hnt
            obtain ⟨g4, c4, rfl⟩ : ∃ g c, v4 = .slice (some ⟨g, 0, none⟩) (k + 1) c := by
              rcases hown4.2 with ⟨h, _⟩ | ⟨g, cap, cur, h, _⟩
              · exact absurd h hne4
              · exact ⟨g, cap, h⟩
            have hcell4 := hown4.cells (g := g4) rfl k (.slice au nu cu) (by rw [List.getElem?_append_right (by omega), hul, Nat.sub_self]; rfl)
            rw [show (⟨g4, 0, none⟩ : Addr).add k = ⟨g4, 0 + k, none⟩ by unfold Addr.add; split <;> simp_all, Nat.zero_add] at hcell4
            have hb4 := own_base hown4 g4 rfl
            have hlt4 := own_lt hown4 g4 rfl
            have p0 := blk_cell (l := [_]) he4 0 _ rfl
            have pf := blk_free he4
            have hes4 := blk_lt he4
            have hgE := gr_setR (p := ⟨K + 1, 0, none⟩) (gr_refl w4 (some (K + 1))) rfl (.slice (some ⟨g4, 0, none⟩) (k + 1) c4)
            have htE : tyOf w4 (K + 1) = some 156 := by unfold tyOf; rw [he4]
            have hst5 : ExSt w K (.slice ad ds.length cd) gs ownF (k + 1) (w4.setCell ⟨K + 1, 0, none⟩ (.slice (some ⟨g4, 0, none⟩) (k + 1) c4)) :=
              ⟨gr_set (p := ⟨K + 1, 0, none⟩) hgr4 (by show w.heap.size ≤ K + 1; omega) _, hltK, blk_set_ne hd4 (by omega) _ _, blk_set_ne hk4 (by omega) _ _, _, _, blk_set he4 0 _, by simp [hul], hown4.kept (row := some (K + 1)) hgE (.inr (by simp [Value.ownBlock]; omega)), fun i u g hu hgg => (hreps4 i u g hu hgg).keep hgE (fun b e => by cases e; rw [htE]; simp)⟩
            have hcell5 := cell_set_ne (g' := K + 1) (o' := 0) (.slice (some ⟨g4, 0, none⟩) (k + 1) c4) hcell4 (.inl (by omega))
            have hw1 : wrap64 ((k : Int) + 1 - 1) = (k : Int) := by unfold wrap64; omega
            clear hreps3 hreps4 hown3 hown4 hg4 hat4 hgr4 he3 hd3 hk3 hd4 hk4 hgE htE hty hbase hnt hu3 hcell4
            by_cases hf : (gs.take k).any (emptyG ownF) = true
            · have HF : Hid ((gs.take (k + 1)).any (emptyG ownF) = true) := by
                unfold Hid; rw [List.take_succ_eq_append_getElem hlt, List.any_append, hf]; rfl
              rw [hf]
              clear hf hw1
              go_wp2_with fail
              go_roundw
              case rel => exact ⟨k + 1, by omega, by go_num, by rw [HF.out], HB2, hst5⟩
              case measure => simp [intOf]; omega
            · have hff : (gs.take k).any (emptyG ownF) = false := by simpa using hf
              have HF : Hid ((gs.take (k + 1)).any (emptyG ownF) = decide (nu = 0)) := by
                unfold Hid; rw [List.take_succ_eq_append_getElem hlt, List.any_append, hff, HNU.out]; simp [emptyG]
              rw [hff]
              clear hf hff hw1
              by_cases hn : nu = 0
              · subst hn
                go_wp2_with fail
                go_roundw
                case rel => exact ⟨k + 1, by omega, by go_num, by rw [HF.out]; rfl, HB2, hst5⟩
                case measure => simp [intOf]; omega
              · have hn' : ((nu : Int) == 0) = false := by simp; omega
                go_wp2_with fail
                go_roundw
                case rel => exact ⟨k + 1, by omega, by go_num, by rw [HF.out]; simp [hn], HB2, hst5⟩
                case measure => simp [intOf]; omega
      · have hke : gs.take k = gs := List.take_of_length_le (by omega)
        have hkl : k = gs.length := by omega
        rw [hke] at HB ⊢
        clear hke hg HO
        cases hfe : gs.any (emptyG ownF)
        · have HR : Hid (r = if 64 < (crossG (gs.map ownF) 0 []).length then ([], 46) else (crossG (gs.map ownF) 0 [], 0)) := by unfold Hid; rw [HS2.out, if_neg (by rw [HB.out]; simp), if_neg (by rw [hfe]; simp)]
          clear HS2 HB hfe
          obtain ⟨ve, us, he, hul, hown, hreps⟩ := hst.e
          have hKe := blk_lt he
          have hlv : ∃ ao co, ve = .slice ao k co := by
            rcases hown.2 with ⟨rfl, h⟩ | ⟨g, cap, cur, rfl, _⟩
            · exact ⟨none, 0, by rw [h]⟩
            · exact ⟨_, _, rfl⟩
          obtain ⟨ao, co, rfl⟩ := hlv
          have hga := gr_alloc (World.grownBy_alloc wr (.cells #[.slice none 0 0] 25) none) (.cells #[.func (.func 94) #[] #[.pointer (some ⟨wr.heap.size, 0, none⟩), .pointer (some ⟨K + 1, 0, none⟩), .pointer (some ⟨wr.heap.size + 1, 0, none⟩)]] 158)
          have hstX : CrossSt wr.heap.size (K + 1) (wr.heap.size + 1) (gs.map ownF) [] ((wr.alloc (.cells #[.slice none 0 0] 25)).alloc (.cells #[.func (.func 94) #[] #[.pointer (some ⟨wr.heap.size, 0, none⟩), .pointer (some ⟨K + 1, 0, none⟩), .pointer (some ⟨wr.heap.size + 1, 0, none⟩)]] 158)) := by
            refine ⟨⟨.slice none 0 0, heap_old _ _ _ _ (heap_new _ _ _ rfl), World.ownsRow_nil _ _ _ _⟩, ⟨ao, co, ?_, us, by rw [hul, hkl]; simp, ?_, ?_⟩, heap_new _ _ _ (by simp), by simp⟩
            · have h := heap_old _ (.cells #[.func (.func 94) #[] #[.pointer (some ⟨wr.heap.size, 0, none⟩), .pointer (some ⟨K + 1, 0, none⟩), .pointer (some ⟨wr.heap.size + 1, 0, none⟩)]] 158) _ _ (heap_old _ (.cells #[.slice none 0 0] 25) _ _ he)
              rw [h, hkl]; simp
            · intro i u y hu hy
              rw [List.getElem?_map] at hy
              cases hgi : gs[i]? with
              | none => rw [hgi] at hy; cases hy
              | some g =>
                rw [hgi] at hy
                have hy' : ownF g = y := Option.some.inj hy
                subst hy'
                exact (Rd.lt2 (hreps i u g hu hgi)).keep hga (by simp)
            · have h := (Rd.lt2 (Rd.own hown)).keep hga (by simp)
              rw [hkl] at h
              simpa using h
          have HX := cross_any wr.heap.size (K + 1) (wr.heap.size + 1) (gs.map ownF) hKe rfl _ 0 rfl (Nat.zero_le _) 0 [] _ hstX
          rw [show ((0 : Nat) : Int) = 0 from rfl, List.drop_zero] at HX
          have hgW := gr_trans hst.gr hga
          have hszw := hst.gr.size
          clear hst he hown hreps hstX hga hul
          go_wp2_with fail
          refine HX.mono ?_
          clear HX
          rintro e w5 ⟨rfl, hst5, hfr5⟩
          obtain ⟨v5, hob5, hown5⟩ := hst5.o
          have hl5 := hst5.len
          have hgr5 : w.grownBy w5 none := ⟨hfr5.os.trans hgW.os, hfr5.tape.trans hgW.tape, hfr5.output.trans hgW.output, Nat.le_trans hgW.size hfr5.size, fun i hi hr => (hfr5.block i (by omega) (by omega)).trans (hgW.block i hi hr)⟩
          have HCl := Clip_ints v5 ((crossG (gs.map ownF) 0 []).map (Value.int .i64)) w5 (by rw [List.length_map]; exact hown5) (by rw [List.length_map]; omega)
          rw [List.length_map] at HCl
          generalize crossG (gs.map ownF) 0 [] = out at *
          have hlv : ∃ ao co, v5 = .slice ao out.length co := by
            rcases hown5.2 with ⟨rfl, h⟩ | ⟨g, cap, cur, rfl, _⟩
            · exact ⟨none, 0, by rw [h]⟩
            · exact ⟨_, _, rfl⟩
          obtain ⟨a5, c5, rfl⟩ := hlv
          have q0 := blk_cell (l := [_]) hob5 0 _ rfl
          have hgs5 := blk_lt hob5
          clear hst5 hfr5 hown5 hob5 hgW
          by_cases h64 : 64 < out.length
          · have HR2 : Hid (r = ([], 46)) := by unfold Hid; rw [HR.out, if_pos h64]
            clear HR HCl
            go_wp2_with fail
            go_ret2
            exact ⟨_, by rw [HR2.out]; rfl, by rw [HR2.out]; exact Rd.nil _ _, hgr5⟩
          · have HR2 : Hid (r = (out, 0)) := by unfold Hid; rw [HR.out, if_neg h64]
            clear HR
            go_wp2_with fail
            refine HCl.mono ?_
            rintro e w6 ⟨u, rfl, rfl, hu⟩
            go_wp2_with fail
            go_ret2
            refine ⟨u, by rw [HR2.out]; rfl, ?_, hgr5⟩
            rw [HR2.out]
            have h := hu.mono (G := (w.heap.size ≤ ·)) (fun k hk => by have := hk.1; omega)
            unfold IntsR
            simpa using h
        · have HR : Hid (r = ([], 0)) := by unfold Hid; rw [HS2.out, if_neg (by rw [HB.out]; simp), if_pos hfe]
          clear HS2 HB hfe
          go_wp2_with fail
          go_ret2
          exact ⟨_, by rw [HR.out]; rfl, by rw [HR.out]; exact Rd.nil _ _, hst.gr⟩
  · have HR : Hid (r = ([], 1)) := by unfold Hid; rw [HS.out, if_pos rfl]
    go_enter Tryz.func40, Tryz.ntmps40
    go_wp2_with fail
    refine HC.mono ?_
    rintro e w2 ⟨rfl, hg2⟩
    go_wp2_with fail
    go_ret2
    exact ⟨_, by rw [HR.out]; rfl, by rw [HR.out]; exact Rd.nil _ _, gr_trans hg1 hg2⟩
end Go.Proofs.YtoilgmdfbibniaaGreatDoor
