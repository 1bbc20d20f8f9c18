/- A text of the proof: a verified executor of the program form, or the contracts of the functions that the law reaches. -/
import Derived.Test.YtafmdjdjabifjaaGreatDoorOkDig
import Derived.Test.YtafmdjdjabifjaaGreatDoorPuPD
import Derived.Test.YtafmdjdjabifjaaGreatDoorVyE
import Derived.Test.YtafmdjdjabifjaaGreatDoorRows
import Derived.WalkKit
import Derived.ProofKit
import Derived.OpenShut
import Derived.ChangeOld
import Derived.Below
import Derived.LaidMore
import Derived.Lay
import Derived.Stop.Joined
import Derived.Lib.LaidTab
import Derived.MakeChecks
import Derived.SevenTiedAt
import Derived.Test.YtafmdjdjabifjaaGreatDoorCards
import Derived.Test.YtafmdjdjabifjaaGreatDoorTie
set_option linter.all false
namespace Go.Proofs.YtafmdjdjabifjaaGreatDoor.panelDigitsMatchSpec
open Go Go.ChangeShapes Go.WideShapes Go.ChangeAt Go.RowKit Go.Vx
set_option linter.unusedVariables false
theorem own : ownKnob Tryz.prog.godebug = Option.none := by kernel_rfl
theorem laidOut : laidOutB Tryz.prog = true := by kernel_rfl
theorem sh3 : shOf Tryz.prog 9 3 = some [.int .i64] := by kernel_rfl
set_option maxRecDepth 100000 in
theorem door_met (os : Os) (args : Array Value) : laidMetH Tryz.prog Rows.panelDigitsMatchSpecRow.laid ((World.laidAll Tryz.prog os Rows.panelDigitsMatchSpecRow.laid).forCall (fun _ _ => 0) ⟨#[], args, []⟩).memory := by
  rw [MakeChecks.laidMetH_plain _ _ _ (by kernel_rfl)]; exact laidMet_laidAll _ (by kernel_rfl) (by kernel_rfl)
set_option maxRecDepth 100000 in
theorem glok {W : World} (h : laidMetH Tryz.prog Rows.panelDigitsMatchSpecRow.laid W) : GlOK gl0 W No [] := by
  rw [MakeChecks.laidMetH_plain _ _ _ (by kernel_rfl)] at h
  obtain ⟨ps, ⟨g0, t0, cs0, f0, p0, q0, hg0, ht0, hv0, hd0, ⟨g1, t1, cs1, f1, p1, q1, hg1, ht1, hv1, hd1, ⟨g2, t2, cs2, f2, p2, q2, hg2, ht2, hv2, hd2, ⟨g3, t3, cs3, f3, p3, q3, hg3, ht3, hv3, hd3, ⟨g4, t4, cs4, f4, p4, q4, hg4, ht4, hv4, hd4, _, _⟩, _⟩, _⟩, _⟩, _⟩, _, _⟩ := h
  obtain rfl := Option.some.inj ((show Tryz.prog.globalNamed _ = some 0 by kernel_rfl).symm.trans hg2)
  obtain rfl := Option.some.inj ((show (Tryz.prog.globals[0]?).map (·.type) = some 226 by kernel_rfl).symm.trans ht2)
  have hc := Go.Lib.cells_of_tab (zs := Go.Lib.pow10Tab) (k := .u64) Tryz.underlying226 Tryz.underlying217 (by kernel_rfl) (by kernel_rfl) hd2
  obtain ⟨e, fr, hh⟩ := var_heap hg2 hv2
  have he : cs2 = (Go.Lib.pow10Tab.map fun z => Value.int .u64 z).toArray := by rw [← hc]
  rw [he] at hh
  refine ⟨by have := heap_lt hh; show 0 + 1 ≤ _; omega, (fun b h => by cases h), fun p hp => ?_⟩
  obtain rfl : p = (0, (Go.Lib.pow10Tab.map fun z => Value.int .u64 z).toArray) := by simpa [gl0] using hp
  exact ⟨by show 0 < 0 + 1; omega, ⟨e, fr, hh⟩, fun h => h.elim⟩
set_option maxRecDepth 100000 in
theorem lifted (os : Os) (started : os.Started) (H : Type) (enc : TypeId × Value → H) :
    ReturnsInHanded {} Tryz.checked os 4 .any (fun w args => (Rows.panelDigitsMatchSpecSpec.pre enc Tryz.prog Tryz.f4 [] false w args ∧ laidMetH Tryz.prog Rows.panelDigitsMatchSpecRow.laid w) ∧ sizedMet enc Tryz.prog Tryz.f4 (OpenSpec.ofChange Rows.panelDigitsMatchSpecSpec) false w args) (Rows.panelDigitsMatchSpecSpec.post enc Tryz.prog Tryz.f4 false true false false) := by
  refine returnsInHanded_of_change_and (C := Tryz.checked) (X := fun w _ => laidMetH Tryz.prog Rows.panelDigitsMatchSpecRow.laid w) (fun _ _ _ hh h => h.of_heap hh) own started (by kernel_rfl) Tryz.func4
    (ChangeSpec.witness_shaped (enc := enc) (C := Tryz.checked) (os := os) (X := fun w _ => laidMetH Tryz.prog Rows.panelDigitsMatchSpecRow.laid w) false (World.laidAll Tryz.prog os Rows.panelDigitsMatchSpecRow.laid) #[.int .i64 0, .int .i64 0, .int .i64 0, .int .i64 0, .int .i64 0] 8 (World.laidAll_os _ _ _) (World.shaped_of_ZipB (by kernel_rfl) (by kernel_rfl)) (by kernel_rfl) (by kernel_rfl) (by kernel_rfl) (door_met os _)) ?_
  intro W base args ds gs before hval0 hW hcnd _ hL _
  have hval : ∀ (j : Nat) t v, Tryz.f4.params[j]? = some t → args[j]? = some v → Value.okWide Tryz.prog W .any base t v := hval0
  have hW' := hW
  obtain ⟨p, q, hA0, hV, rfl, hfz, hnd⟩ := hW
  have hA : DataW.TrodAll enc Tryz.prog W 0 (fun _ => true) true Tryz.f4.params.toList args.toList ds p := hA0
  rw [Tryz.params4] at hA hval
  obtain ⟨v0, vs0, d0, ds0, p0, q0, hargs, rfl, rfl, h0, r0⟩ := trodAll_cons hA
  obtain ⟨v1, vs1, d1, ds1, p1, q1, rfl, rfl, rfl, h1, r1⟩ := trodAll_cons r0
  obtain ⟨v2, vs2, d2, ds2, p2, q2, rfl, rfl, rfl, h2, r2⟩ := trodAll_cons r1
  obtain ⟨v3, vs3, d3, ds3, p3, q3, rfl, rfl, rfl, h3, r3⟩ := trodAll_cons r2
  obtain ⟨v4, vs4, d4, ds4, p4, q4, rfl, rfl, rfl, h4, r4⟩ := trodAll_cons r3
  obtain ⟨rfl, rfl, rfl⟩ := trodAll_nil r4
  obtain rfl : args = #[v0, v1, v2, v3, v4] := by cases args; simp_all
  obtain ⟨rfl, rfl⟩ := trodVars_none hV
  have lt0 : ∀ x ∈ p0, x.block < W.heap.size := by obtain ⟨m, hm⟩ := h0; exact DataW.trod_lt m _ _ _ hm
  have c0 : v0.cells = #[v0] := by obtain ⟨_, rfl⟩ := okWide_int Tryz.underlying3 (hval 0 3 v0 rfl rfl); rfl
  obtain ⟨l0, g0, e0⟩ := arg_one 9 c0 h0 sh3
  obtain ⟨x0, rfl⟩ := int_of (show Fits (.int .i64) l0 from g0)
  have lt1 : ∀ x ∈ p1, x.block < W.heap.size := by obtain ⟨m, hm⟩ := h1; exact DataW.trod_lt m _ _ _ hm
  have c1 : v1.cells = #[v1] := by obtain ⟨_, rfl⟩ := okWide_int Tryz.underlying3 (hval 1 3 v1 rfl rfl); rfl
  obtain ⟨l1, g1, e1⟩ := arg_one 9 c1 h1 sh3
  obtain ⟨x1, rfl⟩ := int_of (show Fits (.int .i64) l1 from g1)
  have lt2 : ∀ x ∈ p2, x.block < W.heap.size := by obtain ⟨m, hm⟩ := h2; exact DataW.trod_lt m _ _ _ hm
  have c2 : v2.cells = #[v2] := by obtain ⟨_, rfl⟩ := okWide_int Tryz.underlying3 (hval 2 3 v2 rfl rfl); rfl
  obtain ⟨l2, g2, e2⟩ := arg_one 9 c2 h2 sh3
  obtain ⟨x2, rfl⟩ := int_of (show Fits (.int .i64) l2 from g2)
  have lt3 : ∀ x ∈ p3, x.block < W.heap.size := by obtain ⟨m, hm⟩ := h3; exact DataW.trod_lt m _ _ _ hm
  have c3 : v3.cells = #[v3] := by obtain ⟨_, rfl⟩ := okWide_int Tryz.underlying3 (hval 3 3 v3 rfl rfl); rfl
  obtain ⟨l3, g3, e3⟩ := arg_one 9 c3 h3 sh3
  obtain ⟨x3, rfl⟩ := int_of (show Fits (.int .i64) l3 from g3)
  have lt4 : ∀ x ∈ p4, x.block < W.heap.size := by obtain ⟨m, hm⟩ := h4; exact DataW.trod_lt m _ _ _ hm
  have c4 : v4.cells = #[v4] := by obtain ⟨_, rfl⟩ := okWide_int Tryz.underlying3 (hval 4 3 v4 rfl rfl); rfl
  obtain ⟨l4, g4, e4⟩ := arg_one 9 c4 h4 sh3
  obtain ⟨x4, rfl⟩ := int_of (show Fits (.int .i64) l4 from g4)
  refine ((ok_law8_PanelDigitsMatchSpec (r := true) (law_Digits x0 x1 x2 x3 x4)).spec No W #[v0, v1, v2, v3, v4] (fun _ h => h.elim) (glok hL) rfl (fun i hi => ?_)).mono fun e W' ⟨v, he, bel, hr⟩ => ?_
  · match i, hi with
    | 0, _ => exact e0
    | 1, _ => exact e1
    | 2, _ => exact e2
    | 3, _ => exact e3
    | 4, _ => exact e4
  · cases hr
    subst he
    exact ⟨_, rfl, _, _, _, [], _, [], hW', trodAll_mk1 (shut_bool Tryz.underlying4 _), (trodAll_cons_mk (Below.trod laidOut (by kernel_rfl) (of_decide_eq_true (by kernel_rfl)) h0 bel lt0) (trodAll_cons_mk (Below.trod laidOut (by kernel_rfl) (of_decide_eq_true (by kernel_rfl)) h1 bel lt1) (trodAll_cons_mk (Below.trod laidOut (by kernel_rfl) (of_decide_eq_true (by kernel_rfl)) h2 bel lt2) (trodAll_cons_mk (Below.trod laidOut (by kernel_rfl) (of_decide_eq_true (by kernel_rfl)) h3 bel lt3) (trodAll_cons_mk (Below.trod laidOut (by kernel_rfl) (of_decide_eq_true (by kernel_rfl)) h4 bel lt4) trodAll_mk0))))), rfl, bel.frame _, fun h => by cases h⟩

theorem jInPlace : (Rows.panelDigitsMatchSpecRow.inPlace == Tryz.prog.inPlace 4) = true := by kernel_rfl
theorem jUnfollowed : (Rows.panelDigitsMatchSpecRow.unfollowed == Tryz.prog.unfollowed 4) = true := by kernel_rfl
theorem jRecurses : (Rows.panelDigitsMatchSpecRow.recurses == Tryz.prog.recurses 4) = true := by kernel_rfl
theorem jNamed : (Rows.panelDigitsMatchSpecRow.named == Tryz.prog.varsNamed 4) = true := by kernel_rfl
set_option maxRecDepth 100000 in
theorem joined : joinedFacts Tryz.prog 4 Tryz.f4 Rows.panelDigitsMatchSpecSpec Rows.panelDigitsMatchSpecRow = true := by
  unfold joinedFacts
  rw [jInPlace, jUnfollowed, jRecurses, jNamed]
  kernel_rfl
theorem over : Rows.panelDigitsMatchSpecRow.holds Tryz.pinned (OpenSpec.ofChange Rows.panelDigitsMatchSpecSpec) :=
  OpenClaim.holds_of_wide 4 Tryz.f4 rfl rfl rfl rfl rfl rfl rfl ⟨rfl, rfl, rfl, rfl, rfl⟩ rfl rfl rfl rfl rfl (by kernel_rfl) Tryz.func4 joined
    (of_decide_eq_true (by kernel_rfl)) (by unfold Func.isWrapper; first | (rw [if_pos (by decide +kernel)]; kernel_rfl) | (rw [if_neg (by decide +kernel)]; exact ⟨rfl, rfl⟩))
    (fun os started H enc _ => lifted os started H enc)
end Go.Proofs.YtafmdjdjabifjaaGreatDoor.panelDigitsMatchSpec
