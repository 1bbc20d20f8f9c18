/- A text of the proof: a verified executor of the program form, or the contracts of the functions that the law reaches. -/
import Derived.Test.YtafmdjdjabifjaaGreatDoorOkVal
import Derived.Test.YtafmdjdjabifjaaGreatDoorPV
import Derived.Test.YtafmdjdjabifjaaGreatDoorWF
import Derived.Test.YtafmdjdjabifjaaGreatDoorRows
import Derived.WalkKit
import Derived.ProofKit
import Derived.OpenShut
import Derived.ChangeOld
import Derived.Below
import Derived.LaidMore
import Derived.Lay
import Derived.Stop.Joined
import Derived.Lib.LaidTab
import Derived.MakeChecks
import Derived.SevenTiedAt
import Derived.Test.YtafmdjdjabifjaaGreatDoorCards
import Derived.Test.YtafmdjdjabifjaaGreatDoorTie
set_option linter.all false
namespace Go.Proofs.YtafmdjdjabifjaaGreatDoor.panelValueMatchesSpec
open Go Go.ChangeShapes Go.WideShapes Go.ChangeAt Go.RowKit Go.Vx
set_option linter.unusedVariables false
theorem op28 {l : List AV} (h : FitsL [.int .i64, .int .i64, .int .i64] l) : ∃ x : api_Sample, wf_api_Sample x ∧ l = [.int .i64 x.At, .int .i64 x.N, .int .i64 x.Mark] := by
  obtain ⟨h1, h2⟩ := h
  match l, h1 with
  | [a0, a1, a2], _ =>
    obtain ⟨x0, w0, rfl⟩ := int_ofW (show Fits (.int .i64) a0 from h2 0 (by simp))
    obtain ⟨x1, w1, rfl⟩ := int_ofW (show Fits (.int .i64) a1 from h2 1 (by simp))
    obtain ⟨x2, w2, rfl⟩ := int_ofW (show Fits (.int .i64) a2 from h2 2 (by simp))
    exact ⟨(api_Sample.mk x0 x1 x2), ⟨w0, w1, w2, trivial⟩, rfl⟩
theorem op26 {l : List AV} (h : FitsL [.str, .int .i64, .sl 28 [.int .i64, .int .i64, .int .i64], .int .i64] l) : ∃ x : api_Track, wf_api_Track x ∧ l = [.str x.Name, .int .i64 x.Series.Den, .sl 28 (List.map R28 x.Series.Samples), .int .i64 x.Long] := by
  obtain ⟨h1, h2⟩ := h
  match l, h1 with
  | [a0, a1, a2, a3], _ =>
    obtain ⟨x0, w0, rfl⟩ := str_ofW (show Fits .str a0 from h2 0 (by simp))
    obtain ⟨x1, w1, rfl⟩ := int_ofW (show Fits (.int .i64) a1 from h2 1 (by simp))
    obtain ⟨x2, w2, rfl⟩ := sl_ofW (f := R28) (p := wf_api_Sample) (fun _ h => op28 h) (show Fits (.sl 28 [.int .i64, .int .i64, .int .i64]) a2 from h2 2 (by simp))
    obtain ⟨x3, w3, rfl⟩ := int_ofW (show Fits (.int .i64) a3 from h2 3 (by simp))
    exact ⟨(api_Track.mk x0 (api_Series.mk x1 x2) x3), ⟨w0, ⟨w1, w2, trivial⟩, w3, trivial⟩, rfl⟩
theorem own : ownKnob Tryz.prog.godebug = Option.none := by kernel_rfl
theorem laidOut : laidOutB Tryz.prog = true := by kernel_rfl
theorem sh3 : shOf Tryz.prog 9 3 = some [.int .i64] := by kernel_rfl
theorem sh26 : shOf Tryz.prog 9 26 = some [.str, .int .i64, .sl 28 [.int .i64, .int .i64, .int .i64], .int .i64] := by kernel_rfl
set_option maxRecDepth 100000 in
theorem door_met (os : Os) (args : Array Value) : laidMetH Tryz.prog Rows.panelValueMatchesSpecRow.laid ((World.laidAll Tryz.prog os Rows.panelValueMatchesSpecRow.laid).forCall (fun _ _ => 0) ⟨#[], args, []⟩).memory := by
  rw [MakeChecks.laidMetH_plain _ _ _ (by kernel_rfl)]; exact laidMet_laidAll _ (by kernel_rfl) (by kernel_rfl)
set_option maxRecDepth 100000 in
theorem glok {W : World} (h : laidMetH Tryz.prog Rows.panelValueMatchesSpecRow.laid W) : GlOK gl0 W No [] := by
  rw [MakeChecks.laidMetH_plain _ _ _ (by kernel_rfl)] at h
  obtain ⟨ps, ⟨g0, t0, cs0, f0, p0, q0, hg0, ht0, hv0, hd0, ⟨g1, t1, cs1, f1, p1, q1, hg1, ht1, hv1, hd1, ⟨g2, t2, cs2, f2, p2, q2, hg2, ht2, hv2, hd2, ⟨g3, t3, cs3, f3, p3, q3, hg3, ht3, hv3, hd3, ⟨g4, t4, cs4, f4, p4, q4, hg4, ht4, hv4, hd4, _, _⟩, _⟩, _⟩, _⟩, _⟩, _, _⟩ := h
  obtain rfl := Option.some.inj ((show Tryz.prog.globalNamed _ = some 0 by kernel_rfl).symm.trans hg2)
  obtain rfl := Option.some.inj ((show (Tryz.prog.globals[0]?).map (·.type) = some 226 by kernel_rfl).symm.trans ht2)
  have hc := Go.Lib.cells_of_tab (zs := Go.Lib.pow10Tab) (k := .u64) Tryz.underlying226 Tryz.underlying217 (by kernel_rfl) (by kernel_rfl) hd2
  obtain ⟨e, fr, hh⟩ := var_heap hg2 hv2
  have he : cs2 = (Go.Lib.pow10Tab.map fun z => Value.int .u64 z).toArray := by rw [← hc]
  rw [he] at hh
  refine ⟨by have := heap_lt hh; show 0 + 1 ≤ _; omega, (fun b h => by cases h), fun p hp => ?_⟩
  obtain rfl : p = (0, (Go.Lib.pow10Tab.map fun z => Value.int .u64 z).toArray) := by simpa [gl0] using hp
  exact ⟨by show 0 < 0 + 1; omega, ⟨e, fr, hh⟩, fun h => h.elim⟩
set_option maxRecDepth 100000 in
theorem lifted (os : Os) (started : os.Started) (H : Type) (enc : TypeId × Value → H) :
    ReturnsInHanded {} Tryz.checked os 3 .any (fun w args => (Rows.panelValueMatchesSpecSpec.pre enc Tryz.prog Tryz.f3 [] false w args ∧ laidMetH Tryz.prog Rows.panelValueMatchesSpecRow.laid w) ∧ sizedMet enc Tryz.prog Tryz.f3 (OpenSpec.ofChange Rows.panelValueMatchesSpecSpec) false w args) (Rows.panelValueMatchesSpecSpec.post enc Tryz.prog Tryz.f3 false true false false) := by
  refine returnsInHanded_of_change_and (C := Tryz.checked) (X := fun w _ => laidMetH Tryz.prog Rows.panelValueMatchesSpecRow.laid w) (fun _ _ _ hh h => h.of_heap hh) own started (by kernel_rfl) Tryz.func3
    (ChangeSpec.witness_shaped (enc := enc) (C := Tryz.checked) (os := os) (X := fun w _ => laidMetH Tryz.prog Rows.panelValueMatchesSpecRow.laid w) false (World.laidAll Tryz.prog os Rows.panelValueMatchesSpecRow.laid) #[.agg #[.string ⟨#[]⟩, .int .i64 0, .slice none 0 0, .int .i64 0], .int .i64 0] 8 (World.laidAll_os _ _ _) (World.shaped_of_ZipB (by kernel_rfl) (by kernel_rfl)) (by kernel_rfl) (by kernel_rfl) (by kernel_rfl) (door_met os _)) ?_
  intro W base args ds gs before hval0 hW hcnd _ hL _
  have hval : ∀ (j : Nat) t v, Tryz.f3.params[j]? = some t → args[j]? = some v → Value.okWide Tryz.prog W .any base t v := hval0
  have hW' := hW
  obtain ⟨p, q, hA0, hV, rfl, hfz, hnd⟩ := hW
  have hA : DataW.TrodAll enc Tryz.prog W 0 (fun _ => true) true Tryz.f3.params.toList args.toList ds p := hA0
  rw [Tryz.params3] at hA hval
  obtain ⟨v0, vs0, d0, ds0, p0, q0, hargs, rfl, rfl, h0, r0⟩ := trodAll_cons hA
  obtain ⟨v1, vs1, d1, ds1, p1, q1, rfl, rfl, rfl, h1, r1⟩ := trodAll_cons r0
  obtain ⟨rfl, rfl, rfl⟩ := trodAll_nil r1
  obtain rfl : args = #[v0, v1] := by cases args; simp_all
  obtain ⟨rfl, rfl⟩ := trodVars_none hV
  have lt0 : ∀ x ∈ p0, x.block < W.heap.size := by obtain ⟨m, hm⟩ := h0; exact DataW.trod_lt m _ _ _ hm
  obtain ⟨l0, g0, e0⟩ := arg_agg 9 Tryz.underlying26 (hval 0 26 v0 rfl rfl) h0 sh26
  obtain ⟨x0, hx0, rfl⟩ := op26 g0
  have lt1 : ∀ x ∈ p1, x.block < W.heap.size := by obtain ⟨m, hm⟩ := h1; exact DataW.trod_lt m _ _ _ hm
  have c1 : v1.cells = #[v1] := by obtain ⟨_, rfl⟩ := okWide_int Tryz.underlying3 (hval 1 3 v1 rfl rfl); rfl
  obtain ⟨l1, g1, e1⟩ := arg_one 9 c1 h1 sh3
  obtain ⟨x1, hx1, rfl⟩ := int_ofW (show Fits (.int .i64) l1 from g1)
  refine ((ok_law8_PanelValueMatchesSpec (r := true) (law_PValue x0 x1 hx0)).spec No W #[v0, v1] (fun _ h => h.elim) (glok hL) rfl (fun i hi => ?_)).mono fun e W' ⟨v, he, bel, hr⟩ => ?_
  · match i, hi with
    | 0, _ => exact e0
    | 1, _ => exact e1
  · cases hr
    subst he
    exact ⟨_, rfl, _, _, _, [], _, [], hW', trodAll_mk1 (shut_bool Tryz.underlying4 _), (trodAll_cons_mk (Below.trod laidOut (by kernel_rfl) (of_decide_eq_true (by kernel_rfl)) h0 bel lt0) (trodAll_cons_mk (Below.trod laidOut (by kernel_rfl) (of_decide_eq_true (by kernel_rfl)) h1 bel lt1) trodAll_mk0)), rfl, bel.frame _, fun h => by cases h⟩

theorem jInPlace : (Rows.panelValueMatchesSpecRow.inPlace == Tryz.prog.inPlace 3) = true := by kernel_rfl
theorem jUnfollowed : (Rows.panelValueMatchesSpecRow.unfollowed == Tryz.prog.unfollowed 3) = true := by kernel_rfl
theorem jRecurses : (Rows.panelValueMatchesSpecRow.recurses == Tryz.prog.recurses 3) = true := by kernel_rfl
theorem jNamed : (Rows.panelValueMatchesSpecRow.named == Tryz.prog.varsNamed 3) = true := by kernel_rfl
set_option maxRecDepth 100000 in
theorem joined : joinedFacts Tryz.prog 3 Tryz.f3 Rows.panelValueMatchesSpecSpec Rows.panelValueMatchesSpecRow = true := by
  unfold joinedFacts
  rw [jInPlace, jUnfollowed, jRecurses, jNamed]
  kernel_rfl
theorem over : Rows.panelValueMatchesSpecRow.holds Tryz.pinned (OpenSpec.ofChange Rows.panelValueMatchesSpecSpec) :=
  OpenClaim.holds_of_wide 3 Tryz.f3 rfl rfl rfl rfl rfl rfl rfl ⟨rfl, rfl, rfl, rfl, rfl⟩ rfl rfl rfl rfl rfl (by kernel_rfl) Tryz.func3 joined
    (of_decide_eq_true (by kernel_rfl)) (by unfold Func.isWrapper; first | (rw [if_pos (by decide +kernel)]; kernel_rfl) | (rw [if_neg (by decide +kernel)]; exact ⟨rfl, rfl⟩))
    (fun os started H enc _ => lifted os started H enc)
end Go.Proofs.YtafmdjdjabifjaaGreatDoor.panelValueMatchesSpec
