/- PlanLeast returns true and leaves its input as it was, for every bound query and every list of views; the arguments and the listed variables read together as at most 1048576 values and letters. The card. -/
import Derived.Test.YtoilgmdfbibniaaGreatDoorCards
import Derived.Test.YtoilgmdfbibniaaGreatDoorTie
import Derived.Test.YtoilgmdfbibniaaGreatDoorOpens
import Derived.Test.YtoilgmdfbibniaaGreatDoorGlob
import Derived.Deep.DeepHandedRow
import Derived.Deep.DeepWitnessRowRef
import Derived.LaidMore
import Derived.SevenTiedAt
set_option linter.unusedSimpArgs false
set_option linter.unusedVariables false
namespace Go.Proofs.YtoilgmdfbibniaaGreatDoor
open Go Go.ChangeShapes Go.WideShapes Go.ChangeAt Go.RowKit Go.Deep

theorem own_knob : ownKnob Tryz.prog.godebug = none := by kernel_rfl
theorem kids : Kids Tryz.prog (· < Tryz.prog.types.size) := kids_rows (by kernel_rfl) (by kernel_rfl)
theorem full : ∀ t e, t < Tryz.prog.types.size → Tryz.prog.underlying t = some (.slice e) → 0 < Tryz.prog.cellsOf e := slices_full_of Tryz.prog (by kernel_rfl)
theorem gr_below' {w w' : World} (h : w.grownBy w' none) : Below w.heap.size w w' := ⟨h.os, h.tape, h.output, h.size, fun k hk => h.block k hk (by simp)⟩
theorem gr_same {w w' : World} (h : w.grownBy w' none) (p : MemPlace) (hp : p.block < w.heap.size) : w.sameAt w' p := by
  cases p with
  | cell b off =>
    have hb := h.block b hp (by simp)
    show w'.cell? _ = w.cell? _
    unfold World.cell?
    simp only [hb]
  | map b => exact h.block b hp (by simp)
theorem gr_frozen {w w' : World} (h : w.grownBy w' none) (b off : Nat) (hp : b < w.heap.size) : w'.frozen? ⟨b, off, none⟩ = w.frozen? ⟨b, off, none⟩ := by
  have hb := h.block b hp (by simp)
  unfold World.frozen?
  simp only [hb]
section
variable {H : Type} {enc : TypeId × Value → H} {P : Program}
theorem trodAll_carry {w w' : World} {base : Nat} {spare : Nat → Bool} {held : Bool} : ∀ {ts : List TypeId} {vs : List Value} {ds : List (DataW H)} {ps : List MemPlace}, DataW.TrodAll enc P w base spare held ts vs ds ps → (∀ p ∈ ps, w.sameAt w' p) → DataW.TrodAll enc P w' base spare held ts vs ds ps
  | [], [], [], _, h, _ => h
  | _ :: _, _ :: _, _ :: _, _, ⟨p, q, ⟨n, h1⟩, h2, e⟩, hs => ⟨p, q, ⟨n, DataW.trod_carry n _ _ _ h1 (fun x hx => hs x (by rw [e]; exact List.mem_append_left _ hx))⟩, trodAll_carry h2 (fun x hx => hs x (by rw [e]; exact List.mem_append_right _ hx)), e⟩
/-- 'post_of_same' where new blocks have come. -/
theorem post_of_grown {f : Func} {s : ChangeSpec} {apart fresh handsOn again : Bool} {W W' : World} {args : Array Value} {v : Value} {ds gs : List (DataW H)} {before pa pv : List MemPlace}
    (hW : DataW.Whole enc P f.params.toList s.vars apart W args.toList ds gs before)
    (hres : ∀ (b : Nat) (sp : Nat → Bool) (hd : Bool), DataW.TrodAll enc P W' b sp hd f.resultTypes.toList (v.resultList f.resultTypes.size) (s.fn H (ds ++ gs)).results [])
    (hargs : ∀ sp : Nat → Bool, (∀ p ∈ before, sp p.block = true) → DataW.TrodAll enc P W' 0 sp true f.params.toList args.toList (s.fn H (ds ++ gs)).args pa)
    (hvars : ∀ sp : Nat → Bool, (∀ p ∈ before, sp p.block = true) → DataW.TrodVars enc P W' sp s.vars (s.fn H (ds ++ gs)).vars pv)
    (hps : before = pa ++ pv) (hg : W.grownBy W' none)
    (hok : ∀ (j : Nat) (t : TypeId) (r : Value), f.resultTypes[j]? = some t → (v.resultList f.resultTypes.size)[j]? = some r → Value.okWide P W' .any 0 t r) :
    s.post enc P f apart fresh handsOn again W args v W' := by
  have hlt := hW.lt
  have hold : ∀ p ∈ before, (fun b => decide (b < W.heap.size)) p.block = true := fun p hp => by simpa using hlt p hp
  refine ⟨ds, gs, before, [], pa, pv, hW, hres _ _ _, hargs _ hold, hvars _ hold, World.keptBut_mono (fun p hp => ⟨hp, ?_⟩) ((gr_below' hg).frame (· ∈ before)), fun _ => ?_⟩
  · rw [hps, List.mem_append] at hp
    exact Or.inr hp
  · obtain ⟨_, _, _, _, _, hz, hn⟩ := hW
    refine ⟨hok, _, _, ([] ++ pa) ++ pv, ⟨[] ++ pa, pv, trodAll_append (hargs _ (fun _ _ => rfl)) (hres _ _ _), hvars _ (fun _ _ => rfl), rfl, ?_, ?_⟩, ?_⟩
    · intro b off hp
      have hp' : MemPlace.cell b off ∈ before := by rw [hps]; simpa using hp
      rw [gr_frozen hg b off (hlt _ hp')]
      exact hz b off hp'
    · intro ha
      have := hn ha
      rw [hps] at this
      simpa using this
    · intro p hp _
      rw [hps]
      simpa using hp
end

theorem slice_of {H : Type} {enc : TypeId × Value → H} {W : World} {base : Nat} {spare : Nat → Bool} {held : Bool} {fuel : Nat} {t e : TypeId} {v : Value} {x : DataW H × List MemPlace} (ht : Tryz.prog.underlying t = some (.slice e)) (h : DataW.trod enc Tryz.prog W base spare held fuel t [v] = some x) : ∃ a n c, v = .slice a n c := by
  rcases open_slice ht h with ⟨hv, -⟩ | ⟨a, len, cap, m, n, D, Pl, hv, -⟩
  · exact ⟨none, 0, 0, by simpa using hv⟩
  · exact ⟨some a, len, cap, by simpa using hv⟩
set_option maxRecDepth 100000 in
theorem contract (H : Type) (enc : TypeId × Value → H) (W : World) (base : Nat) (args : Array Value) (ds gs : List (DataW H)) (before : List MemPlace)
    (hval : ∀ (j : Nat) t v, Tryz.f3.params[j]? = some t → args[j]? = some v → Value.okWide Tryz.prog W .any base t v)
    (hW : DataW.Whole enc Tryz.prog Tryz.f3.params.toList Rows.planLeastSpec.vars false W args.toList ds gs before) (hk : Rows.uptoSmall H (ds ++ gs) = true) (hL : laidMet Tryz.prog Rows.planLeastUptoRow.laid W) :
    Calls Tryz.prog 3 args W fun e W' => ∃ v, e = .returned v ∧ Rows.planLeastSpec.post enc Tryz.prog Tryz.f3 false true false false W args v W' := by
  have hG := glob_of hL
  have hW' := hW
  obtain ⟨p, q, hA0, hV, rfl, hfz, hnd⟩ := hW
  have hA : DataW.TrodAll enc Tryz.prog W 0 (fun _ => true) true Tryz.f3.params.toList args.toList ds p := hA0
  have hAk := hA
  rw [Tryz.params3] at hA hval
  obtain ⟨v0, vs0, d0, ds0, p0, q0, hargs, rfl, rfl, h0, r0⟩ := trodAll_cons hA
  obtain ⟨v1, vs1, d1, ds1, p1, q1, rfl, rfl, rfl, h1, r1⟩ := trodAll_cons r0
  obtain ⟨v2, vs2, d2, ds2, p2, q2, rfl, rfl, rfl, h2, r2⟩ := trodAll_cons r1
  obtain ⟨rfl, rfl, rfl⟩ := trodAll_nil r2
  obtain rfl : args = #[v0, v1, v2] := by cases args; simp_all
  obtain ⟨rfl, rfl⟩ := trodVars_none hV
  have hk2 : Rows.uptoSmall H [d0, d1, d2] = true := by simpa using hk
  have hbulk : Rows.uptoBulkAll [d0, d1, d2] ≤ 1048576 := of_decide_eq_true hk2
  obtain ⟨b0, b1, b2, b3, y0, y1, y2, y3, n, rfl, rfl, -, t0, t1, t2, t3⟩ := Go.Joins.open_agg4 Tryz.underlying27 (by kernel_rfl) (by kernel_rfl) (hval 0 _ _ rfl rfl) h0
  obtain ⟨o0, o1, o2, o3, z0, z1, z2, z3, n', rfl, rfl, -, s0, s1, s2, s3⟩ := Go.Joins.open_agg4 Tryz.underlying30 (by kernel_rfl) (by kernel_rfl) (hval 1 _ _ rfl rfl) h1
  obtain ⟨cs, rfl, -⟩ := okWide_struct Tryz.underlying32 (hval 2 _ _ rfl rfl)
  obtain ⟨fuel2, hf2⟩ := h2
  obtain ⟨m, hm⟩ := vi_of hf2
  obtain ⟨t, ht⟩ := testR_of (Rows.uptoBulk y2.1) n b2 y2 (Nat.le_refl _) t2
  obtain ⟨a3, c3, sets, rfl, hs⟩ := intsR_of t3
  obtain ⟨a4, c4, l, rfl, hv, hl⟩ := visR_of s3
  obtain ⟨kr, hkr, -, -⟩ := DataW.trod_int Tryz.underlying3 s0
  obtain ⟨kh, hkh, -, -⟩ := DataW.trod_int Tryz.underlying3 s1
  obtain ⟨kf, hkf, -, -⟩ := DataW.trod_int Tryz.underlying3 s2
  obtain rfl : o0 = .int .i64 kr := by simpa using hkr
  obtain rfl : o1 = .int .i64 kh := by simpa using hkh
  obtain rfl : o2 = .int .i64 kf := by simpa using hkf
  obtain ⟨ap, np, cp, rfl⟩ := slice_of Tryz.underlying22 t0
  obtain ⟨an, nn, cn, rfl⟩ := slice_of Tryz.underlying23 t1
  obtain ⟨pv, rfl⟩ := ht.ptr
  obtain rfl : cs = m.cells.toArray := by
    have : cs.toList = m.cells := hm
    rw [← this]
  have hll : l.length ≤ 1048576 := by
    have e1 := bulk_part (d := DataW.agg [z0.1, z1.1, z2.1, z3.1]) (l := [DataW.agg [y0.1, y1.1, y2.1, y3.1], DataW.agg [z0.1, z1.1, z2.1, z3.1], d2]) (by simp)
    have e2 := bulk_part (l := [z0.1, z1.1, z2.1, z3.1]) (show z3.1 ∈ _ by simp)
    have e3 : Rows.uptoBulk (DataW.agg [z0.1, z1.1, z2.1, z3.1]) = Rows.uptoBulkAll [z0.1, z1.1, z2.1, z3.1] + 1 := by simp only [Rows.uptoBulk]
    have e4 := Nat.le_trans e1 hbulk
    omega
  clear hA0 hA r0 r1 h0 h1 hf2
  simp only [List.append_nil] at hW' hAk
  refine (PlanLeast_any (m := m) hG (fun k h => h) ht hs hv hll).mono fun e W' ⟨he, hg⟩ => ?_
  subst he
  exact ⟨_, rfl, post_of_grown (pv := []) hW' (fun _ _ _ => trodAll_cons_mk (shut_bool Tryz.underlying4 _) trodAll_mk0) (fun sp hsp => trodAll_carry (DataW.TrodAll.respare kids full (by rw [Tryz.params3]; decide) hAk hsp) (fun p hp => gr_same hg p (hAk.lt p hp))) (fun _ _ => rfl) (by simp) hg
    (ok_one (by kernel_rfl) rfl (okWide_bool_mk Tryz.underlying4 _))⟩
/-- what a listed table lays -/
def litCell : DataW Unit → Value
  | .lit (.int k n) => .int k n
  | _ => undef
def dataCells : DataW Unit → List Value
  | .agg l => l.map litCell
  | _ => []
def dataCells2 : DataW Unit → List Value
  | .agg l => l.flatMap dataCells
  | _ => []
noncomputable def laidWorld (os : Os) : World :=
  let N := (World.settled Tryz.prog os).heap.size
  let w0 := World.holding Tryz.prog os ⟨#[.cells #[.string ⟨#[105, 110, 118, 97, 108, 105, 100, 32, 115, 121, 110, 116, 97, 120]⟩] 283, .cells #[.string ⟨#[118, 97, 108, 117, 101, 32, 111, 117, 116, 32, 111, 102, 32, 114, 97, 110, 103, 101]⟩] 283], #[], []⟩
  let put (h : Array Obj) (g : Nat) (cs : List Value) : Array Obj := h.modify g fun
    | .cells _ t frozen => .cells cs.toArray t frozen
    | o => o
  let h1 := put w0.heap 0 (dataCells Rows.laid_caisson_lex_kinds)
  let h2 := put h1 1 (dataCells Rows.laid_internal_strconv_uint64pow10)
  let h3 := put h2 2 (dataCells Rows.laid_unicode_utf8_first)
  let h4 := put h3 3 (dataCells2 Rows.laid_unicode_utf8_acceptRanges)
  let h5 := put h4 5 (dataCells Rows.laid_math_bits_deBruijn32tab)
  let h6 := put h5 6 (dataCells Rows.laid_math_bits_deBruijn64tab)
  let h7 := put h6 7 [.iface 281 (.pointer (some ⟨N, 0, none⟩))]
  let h8 := put h7 8 [.iface 281 (.pointer (some ⟨N + 1, 0, none⟩))]
  { w0 with heap := h8 }
abbrev zeroArgs : Array Value := #[.agg #[.slice none 0 0, .slice none 0 0, .pointer none, .slice none 0 0], .agg #[.int .i64 0, .int .i64 0, .int .i64 0, .slice none 0 0], .agg #[.int .i64 0, .int .i64 0, .int .i64 0, .int .i64 0, .int .i64 0, .int .i64 0]]
set_option maxRecDepth 100000 in
theorem laid_met (os : Os) : laidMet Tryz.prog Rows.planLeastUptoRow.laid ((laidWorld os).forCall (fun _ _ => 0) ⟨#[], zeroArgs, []⟩).memory :=
  laidMet_of_run' 8 (by kernel_rfl) (by kernel_rfl)
set_option maxRecDepth 100000 in
theorem reads (os : Os) {H : Type} (enc : TypeId × Value → H) : ∃ places, DataW.whole enc Tryz.prog ((laidWorld os).forCall (fun _ _ => 0) ⟨#[], zeroArgs, []⟩).memory Tryz.f3.params.toList Rows.planLeastSpec.vars false zeroArgs.toList 8 = some ([.agg [.nil, .nil, .nil, .nil], .agg [.lit (.int .i64 0), .lit (.int .i64 0), .lit (.int .i64 0), .nil], .agg [.lit (.int .i64 0), .lit (.int .i64 0), .lit (.int .i64 0), .lit (.int .i64 0), .lit (.int .i64 0), .lit (.int .i64 0)]], [], places) :=
  ⟨[], by kernel_rfl⟩
set_option maxRecDepth 100000 in
theorem liftedUpto (os : Os) (started : os.Started) (H : Type) (enc : TypeId × Value → H) (F : Stop.Interp) :
    ReturnsInHanded {} Tryz.checked os 3 .any ((Rows.OpenSpec.upto Rows.planLeastSpec).preRow enc Tryz.prog Tryz.f3 Rows.planLeastUptoRow.domain false Rows.planLeastUptoRow.laid) (((Rows.OpenSpec.upto Rows.planLeastSpec).at F).post enc Tryz.prog Tryz.f3 false true false false) := by
  obtain ⟨places, hx⟩ := reads os enc
  refine returnsInHanded_of_row (C := Tryz.checked) (s := Rows.OpenSpec.upto Rows.planLeastSpec) own_knob started (by kernel_rfl) Tryz.func3
    (witness_row_atRef (enc := enc) (C := Tryz.checked) false (laidWorld os) zeroArgs rfl (by kernel_rfl) (by kernel_rfl) (by kernel_rfl)
      (OpenSpec.preRow_of_cond 8 hx (by kernel_rfl) (fun k hk => by cases hk; kernel_rfl) (by kernel_rfl) (laid_met os))) ?_
  intro W base args ds gs before hval hW _ hcond _ hL _ _
  exact contract H enc W base args ds gs before hval hW (hcond _ rfl) hL

theorem saidUpto : Rows.PlanLeastUptoSaid :=
  OpenClaim.holds_of_cond 3 Tryz.f3 rfl rfl rfl rfl rfl rfl rfl ⟨rfl, rfl, rfl, rfl, rfl⟩ rfl rfl rfl rfl rfl (by kernel_rfl) Tryz.func3 (by kernel_rfl)
    (of_decide_eq_true (by kernel_rfl)) (by unfold Func.isWrapper; first | (rw [if_pos (by decide +kernel)]; kernel_rfl) | (rw [if_neg (by decide +kernel)]; exact ⟨rfl, rfl⟩))
    (fun os started H enc _ F => by rw [OpenClaim.pre_eq_preRow]; exact liftedUpto os started H enc F)

/-- No parameter wants a stand-in; the program's own looks: what the card asks. -/
theorem plain (f : FuncId) (fn : Func) (hf : Tryz.pinned.checked.prog.funcNamed "caisson/caissonlaw19.PlanLeast" = some f) (hfn : Tryz.pinned.checked.prog.funcs[f]? = some fn) :
    true = Tryz.pinned.checked.prog.looks [] ∧ ∀ (j : Nat) t, fn.params[j]? = some t → Tryz.pinned.checked.prog.wantsStandIn t = false := by
  obtain rfl : f = 3 := Option.some.inj ((show Tryz.prog.funcNamed "caisson/caissonlaw19.PlanLeast" = some 3 by kernel_rfl).symm.trans hf) |>.symm
  obtain rfl : fn = Tryz.f3 := (Option.some.inj (Tryz.func3.symm.trans hfn)).symm
  refine ⟨by kernel_rfl, fun j t ht => ?_⟩
  rw [Tryz.params3] at ht
  have hm : t = 27 ∨ t = 30 ∨ t = 32 := by simpa using Array.mem_of_getElem? ht
  rcases hm with rfl | rfl | rfl
  · exact (show Tryz.prog.wantsStandIn 27 = false by kernel_rfl)
  · exact (show Tryz.prog.wantsStandIn 30 = false by kernel_rfl)
  · exact (show Tryz.prog.wantsStandIn 32 = false by kernel_rfl)

/-- ████ THE SECOND FORM's CARD ████ -/
theorem planLeast_upto_card : Rows.PlanLeastUptoCardSaid :=
  Claim7.holds_tied_plain_at .later [] _ _ _ _ saidUpto (fun _ h => by cases h) (by kernel_rfl) (fun _ h => by cases h) planLeastUpto_row_tie rfl ⟨rfl, rfl⟩ (by kernel_rfl) rfl plain (by kernel_rfl)
#print axioms planLeast_upto_card
end Go.Proofs.YtoilgmdfbibniaaGreatDoor
