/- A text of the proof: a verified executor of the program form, or the contracts of the functions that the law reaches. -/
import Derived.Test.YtecdkapjjhkanaaDoorOkMed
import Derived.Test.YtecdkapjjhkanaaDoorPH
import Derived.Test.YtecdkapjjhkanaaDoorVyE
import Derived.Test.YtecdkapjjhkanaaDoorRows
import Derived.WalkKit
import Derived.ProofKit
import Derived.OpenShut
import Derived.ChangeOld
import Derived.Below
import Derived.LaidMore
import Derived.Stop.Joined
import Derived.Lib.LaidTab
import Derived.MakeChecks
import Derived.SevenTiedAt
import Derived.Test.YtecdkapjjhkanaaDoorCards
import Derived.Test.YtecdkapjjhkanaaDoorTie
set_option linter.all false
namespace Go.Proofs.YtecdkapjjhkanaaDoor.seriesMedianMatchesSpec
open Go Go.ChangeShapes Go.WideShapes Go.ChangeAt Go.RowKit Go.Vx
set_option linter.unusedVariables false
theorem op69 {l : List AV} (h : FitsL [.int .i64, .int .i64, .int .i64] l) : ∃ x : api_Sample, l = [.int .i64 x.At, .int .i64 x.N, .int .i64 x.Mark] := by
  obtain ⟨h1, h2⟩ := h
  match l, h1 with
  | [a0, a1, a2], _ =>
    obtain ⟨x0, rfl⟩ := int_of (show Fits (.int .i64) a0 from h2 0 (by simp))
    obtain ⟨x1, rfl⟩ := int_of (show Fits (.int .i64) a1 from h2 1 (by simp))
    obtain ⟨x2, rfl⟩ := int_of (show Fits (.int .i64) a2 from h2 2 (by simp))
    exact ⟨(api_Sample.mk x0 x1 x2), rfl⟩
theorem op24 {l : List AV} (h : FitsL [.int .i64, .sl 69 [.int .i64, .int .i64, .int .i64]] l) : ∃ x : api_Series, l = [.int .i64 x.Den, .sl 69 (List.map R69 x.Samples)] := by
  obtain ⟨h1, h2⟩ := h
  match l, h1 with
  | [a0, a1], _ =>
    obtain ⟨x0, rfl⟩ := int_of (show Fits (.int .i64) a0 from h2 0 (by simp))
    obtain ⟨x1, rfl⟩ := sl_of (f := R69) (fun _ h => op69 h) (show Fits (.sl 69 [.int .i64, .int .i64, .int .i64]) a1 from h2 1 (by simp))
    exact ⟨(api_Series.mk x0 x1), rfl⟩
theorem own : ownKnob Tryd.prog.godebug = Option.none := by kernel_rfl
theorem laidOut : laidOutB Tryd.prog = true := by kernel_rfl
theorem sh3 : shOf Tryd.prog 9 3 = some [.int .i64] := by kernel_rfl
theorem sh24 : shOf Tryd.prog 9 24 = some [.int .i64, .sl 69 [.int .i64, .int .i64, .int .i64]] := by kernel_rfl
set_option maxRecDepth 100000 in
theorem door_met (os : Os) (args : Array Value) : laidMetH Tryd.prog Rows.seriesMedianMatchesSpecRow.laid ((World.doorLaid Tryd.prog 400 os).forCall (fun _ _ => 0) ⟨#[], args, []⟩).memory :=
  laidMetH_of_parts3 (fuel := 8) (laidMet_of_run' 8 (by kernel_rfl) (by kernel_rfl)) (by kernel_rfl) (by kernel_rfl)
set_option maxRecDepth 100000 in
theorem glok {W : World} (h : laidMetH Tryd.prog Rows.seriesMedianMatchesSpecRow.laid W) : GlOK gl0 W No [] := by
  rw [MakeChecks.laidMetH_plain _ _ _ (by kernel_rfl)] at h
  obtain ⟨ps, ⟨g0, t0, cs0, f0, p0, q0, hg0, ht0, hv0, hd0, ⟨g1, t1, cs1, f1, p1, q1, hg1, ht1, hv1, hd1, ⟨g2, t2, cs2, f2, p2, q2, hg2, ht2, hv2, hd2, _, _⟩, _⟩, _⟩, _, _⟩ := h
  obtain rfl := Option.some.inj ((show Tryd.prog.globalNamed _ = some 0 by kernel_rfl).symm.trans hg2)
  obtain rfl := Option.some.inj ((show (Tryd.prog.globals[0]?).map (·.type) = some 147 by kernel_rfl).symm.trans ht2)
  have hc := Go.Lib.cells_of_tab (zs := Go.Lib.pow10Tab) (k := .u64) Tryd.underlying147 Tryd.underlying101 (by kernel_rfl) (by kernel_rfl) hd2
  obtain ⟨e, fr, hh⟩ := var_heap hg2 hv2
  have he : cs2 = (Go.Lib.pow10Tab.map fun z => Value.int .u64 z).toArray := by rw [← hc]
  rw [he] at hh
  refine ⟨by have := heap_lt hh; show 0 + 1 ≤ _; omega, (fun b h => by cases h), fun p hp => ?_⟩
  obtain rfl : p = (0, (Go.Lib.pow10Tab.map fun z => Value.int .u64 z).toArray) := by simpa [gl0] using hp
  exact ⟨by show 0 < 0 + 1; omega, ⟨e, fr, hh⟩, fun h => h.elim⟩
set_option maxRecDepth 100000 in
theorem lifted (os : Os) (started : os.Started) (H : Type) (enc : TypeId × Value → H) :
    ReturnsInHanded {} Tryd.checked os 8 .any (fun w args => (Rows.seriesMedianMatchesSpecSpec.pre enc Tryd.prog Tryd.f8 [] false w args ∧ laidMetH Tryd.prog Rows.seriesMedianMatchesSpecRow.laid w) ∧ sizedMet enc Tryd.prog Tryd.f8 (OpenSpec.ofChange Rows.seriesMedianMatchesSpecSpec) false w args) (Rows.seriesMedianMatchesSpecSpec.post enc Tryd.prog Tryd.f8 false true false false) := by
  refine returnsInHanded_of_change_and (C := Tryd.checked) (X := fun w _ => laidMetH Tryd.prog Rows.seriesMedianMatchesSpecRow.laid w) (fun _ _ _ hh h => h.of_heap hh) own started (by kernel_rfl) Tryd.func8
    (ChangeSpec.witness_shaped (enc := enc) (C := Tryd.checked) (os := os) (X := fun w _ => laidMetH Tryd.prog Rows.seriesMedianMatchesSpecRow.laid w) false (World.doorLaid Tryd.prog 400 os) #[.agg #[.int .i64 0, .slice none 0 0], .int .i64 0] 8 rfl (World.shaped_of_RefB (by kernel_rfl) (by kernel_rfl)) (by kernel_rfl) (by kernel_rfl) (by kernel_rfl) (door_met os _)) ?_
  intro W base args ds gs before hval0 hW hcnd _ hL _
  have hval : ∀ (j : Nat) t v, Tryd.f8.params[j]? = some t → args[j]? = some v → Value.okWide Tryd.prog W .any base t v := hval0
  have hW' := hW
  obtain ⟨p, q, hA0, hV, rfl, hfz, hnd⟩ := hW
  have hA : DataW.TrodAll enc Tryd.prog W 0 (fun _ => true) true Tryd.f8.params.toList args.toList ds p := hA0
  rw [Tryd.params8] at hA hval
  obtain ⟨v0, vs0, d0, ds0, p0, q0, hargs, rfl, rfl, h0, r0⟩ := trodAll_cons hA
  obtain ⟨v1, vs1, d1, ds1, p1, q1, rfl, rfl, rfl, h1, r1⟩ := trodAll_cons r0
  obtain ⟨rfl, rfl, rfl⟩ := trodAll_nil r1
  obtain rfl : args = #[v0, v1] := by cases args; simp_all
  obtain ⟨rfl, rfl⟩ := trodVars_none hV
  have lt0 : ∀ x ∈ p0, x.block < W.heap.size := by obtain ⟨m, hm⟩ := h0; exact DataW.trod_lt m _ _ _ hm
  obtain ⟨l0, g0, e0⟩ := arg_agg 9 Tryd.underlying24 (hval 0 24 v0 rfl rfl) h0 sh24
  obtain ⟨x0, rfl⟩ := op24 g0
  have lt1 : ∀ x ∈ p1, x.block < W.heap.size := by obtain ⟨m, hm⟩ := h1; exact DataW.trod_lt m _ _ _ hm
  have c1 : v1.cells = #[v1] := by obtain ⟨_, rfl⟩ := okWide_int Tryd.underlying3 (hval 1 3 v1 rfl rfl); rfl
  obtain ⟨l1, g1, e1⟩ := arg_one 9 c1 h1 sh3
  obtain ⟨x1, rfl⟩ := int_of (show Fits (.int .i64) l1 from g1)
  refine ((ok_law5_SeriesMedianMatchesSpec (r := true) (law_Median x0 x1)).spec No W #[v0, v1] (fun _ h => h.elim) (glok hL) rfl (fun i hi => ?_)).mono fun e W' ⟨v, he, bel, hr⟩ => ?_
  · match i, hi with
    | 0, _ => exact e0
    | 1, _ => exact e1
  · cases hr
    subst he
    exact ⟨_, rfl, _, _, _, [], _, [], hW', trodAll_mk1 (shut_bool Tryd.underlying4 _), (trodAll_cons_mk (Below.trod laidOut (by kernel_rfl) (of_decide_eq_true (by kernel_rfl)) h0 bel lt0) (trodAll_cons_mk (Below.trod laidOut (by kernel_rfl) (of_decide_eq_true (by kernel_rfl)) h1 bel lt1) trodAll_mk0)), rfl, bel.frame _, fun h => by cases h⟩

theorem over : Rows.seriesMedianMatchesSpecRow.holds Tryd.pinned (OpenSpec.ofChange Rows.seriesMedianMatchesSpecSpec) :=
  OpenClaim.holds_of_wide 8 Tryd.f8 rfl rfl rfl rfl rfl rfl rfl ⟨rfl, rfl, rfl, rfl, rfl⟩ rfl rfl rfl rfl rfl (by kernel_rfl) Tryd.func8 (by kernel_rfl)
    (of_decide_eq_true (by kernel_rfl)) (by unfold Func.isWrapper; first | (rw [if_pos (by decide +kernel)]; kernel_rfl) | (rw [if_neg (by decide +kernel)]; exact ⟨rfl, rfl⟩))
    (fun os started H enc _ => lifted os started H enc)

theorem proved : Rows.SeriesMedianMatchesSpecCardSaid :=
  Claim7.holds_tied_plain_at .later [] _ true _ false over (fun _ h => by cases h) (by kernel_rfl) (fun _ h => by cases h) seriesMedianMatchesSpec_row_tie rfl ⟨rfl, rfl⟩ (by kernel_rfl) rfl
    (fun f fn hf hfn => by
      obtain rfl : f = 8 := Option.some.inj ((show Tryd.prog.funcNamed Rows.seriesMedianMatchesSpecRow.func = some 8 by kernel_rfl).symm.trans hf) |>.symm
      obtain rfl : fn = Tryd.f8 := (Option.some.inj (Tryd.func8.symm.trans hfn)).symm
      exact ⟨by kernel_rfl, fun j t ht => by
        rw [Tryd.params8] at ht
        have hm : t ∈ [24, 3] := by simpa using Array.mem_of_getElem? ht
        have hall : ([24, 3].all fun u => !Tryd.prog.wantsStandIn u) = true := by kernel_rfl
        exact (show Tryd.prog.wantsStandIn t = false by simpa using List.all_eq_true.1 hall t hm)⟩)
    (by kernel_rfl)
end Go.Proofs.YtecdkapjjhkanaaDoor.seriesMedianMatchesSpec
