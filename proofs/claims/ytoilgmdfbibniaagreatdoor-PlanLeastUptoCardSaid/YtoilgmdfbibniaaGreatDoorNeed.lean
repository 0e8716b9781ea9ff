/- What a bound query needs: cube.Need. -/
import Derived.Test.YtoilgmdfbibniaaGreatDoorTest
set_option linter.unusedSimpArgs false
set_option linter.unusedVariables false
set_option maxRecDepth 20000
namespace Go.Proofs.YtoilgmdfbibniaaGreatDoor
open Go Go.RowKit

def needStep (acc s : Int) : Int := bits .or .i64 acc (ofI (listI s))
def needF (t : TT) (sets : List Int) : Int := sets.foldl needStep (readsT t).1

theorem Need_any (F : Nat → Prop) (t : TT) (l : List Int) (p q v s : Value) (w : World) (hp : p.oneCell' = true) (hq : q.oneCell' = true) (hF : ∀ k, F k → k < w.heap.size) (ht : TestR F w v t) (hs : IntsR F w s l) :
    Calls Tryz.prog 7 #[.agg #[p, q, v, s]] w fun e w' => e = .returned (.tuple #[.int .i64 (needF t l), .bool (readsT t).2]) ∧ w.grownBy w' none := by
  have hs' := hs
  obtain ⟨a, c, rfl, hc, hm, -⟩ := hs'
  have hm' : l.length ≤ 9223372036854775807 := by unfold maxLen at hm; omega
  clear hm hc
  obtain ⟨pv, rfl⟩ := ht.ptr
  have HS : Hid (needF t l = l.foldl needStep (readsT t).1) := rfl
  have HR := fun W' h1 h2 => Reads_any F t (.pointer pv) W' h1 h2
  generalize needF t l = nf at *
  generalize readsT t = r at *
  obtain ⟨r1, r2⟩ := r
  go_enter Tryz.func7, Tryz.ntmps7
  go_wp2_with fail
  have hg1 : w.grownBy (w.alloc (.cells #[p, q, .pointer pv, .slice a l.length c] 27)) none := gr_alloc (gr_refl _ _) _
  have hc1 : (w.alloc (.cells #[p, q, .pointer pv, .slice a l.length c] 27)).cell? ⟨w.heap.size, 3, none⟩ = some (.slice a l.length c) := by go_simp
  have ht1 := ht.keep hg1 (by simp)
  generalize (w.alloc (.cells #[p, q, .pointer pv, .slice a l.length c] 27)) = W at *
  refine (HR W (fun k hk => by have := hF k hk; have := hg1.size; omega) ht1).mono ?_
  rintro e w1 ⟨rfl, hg2⟩
  have hc2 := gr_cell hg2 hc1 (by simp)
  have hg3 := gr_trans hg1 hg2
  have hs1 : IntsR F w1 (.slice a l.length c) l := Rd.keep hs hg3 (by simp)
  clear HR hc1 ht1 ht hs hg1 hg2
  go_wp2_with fail
  clear hc2
  go_loopw [4, 17] (fun v i wr => ∃ k : Nat, k ≤ l.length ∧ i = .int .i64 k ∧ v = .int .i64 ((l.take k).foldl needStep r1) ∧ w.grownBy wr none ∧ IntsR F wr (.slice a l.length c) l) (fun _ i _ => l.length - (intOf i).toNat)
  case atStart => exact ⟨0, Nat.zero_le _, rfl, rfl, hg3, hs1⟩
  case round =>
    obtain ⟨k, hk, rfl, rfl, hg, hsr⟩ := hrel
    by_cases hlt : k < l.length
    · obtain ⟨g, o, rfl, -, hgs, hcell⟩ := Rd.at_ hsr (j := k) (by simpa using hlt)
      have hx : wr.cell? ⟨g, o + k, none⟩ = some (.int .i64 l[k]) := hcell k _ (by simp [hlt])
      have HK : Hid ((l.take (k + 1)).foldl needStep r1 = needStep ((l.take k).foldl needStep r1) l[k]) := by
        unfold Hid; rw [List.take_succ_eq_append_getElem hlt, List.foldl_append]; rfl
      generalize l[k] = x at hx HK
      generalize (l.take k).foldl needStep r1 = y at HK
      clear hcell hs1 hg3
      go_wp2_with fail
      refine (List_any x wr).mono ?_
      rintro e w2 ⟨v2, rfl, hv2, hb2⟩
      have hgk := gr_below hb2 none
      have hsr2 : IntsR F w2 _ l := Rd.keep hsr hgk (by simp)
      have hgg := gr_trans hg hgk
      obtain ⟨a2, c2, rfl, -, -, -⟩ := id hv2
      clear hsr hx hb2 hgk hg
      go_wp2_with fail
      refine (Of_any _ _ (listI x) w2 hv2).mono ?_
      rintro e w3 ⟨rfl, rfl⟩
      clear hv2
      generalize hz : ofI (listI x) = z at *
      have HZ := Lib.hid hz
      clear hz
      go_wp2
      go_roundw
      case rel => exact ⟨k + 1, by omega, by go_num, by rw [HK.out, needStep, HZ.out], hgg, hsr2⟩
      case measure => simp [intOf]; omega
    · go_wp2
      go_ret2
      exact ⟨ret_two (val_int (by rw [HS.out, List.take_of_length_le (i := k) (l := l) (by omega)])) rfl, hg⟩
end Go.Proofs.YtoilgmdfbibniaaGreatDoor
