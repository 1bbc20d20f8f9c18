/- A text of the proof: a verified executor of the program form, or the contracts of the functions that the law reaches. -/
import Derived.Test.YtciaeohnkfnamaaDoorOkTm
import Derived.Test.YtciaeohnkfnamaaDoorPB
import Derived.Test.YtciaeohnkfnamaaDoorVO
import Derived.Test.YtciaeohnkfnamaaDoorVP
import Derived.Test.YtciaeohnkfnamaaDoorRows
import Derived.WalkKit
import Derived.ProofKit
import Derived.OpenShut
import Derived.ChangeOld
import Derived.Below
import Derived.LaidMore
import Derived.Lay
import Derived.Stop.Joined
import Derived.Lib.LaidTab
import Derived.MakeChecks
import Derived.SevenTiedAt
import Derived.Test.YtciaeohnkfnamaaDoorCards
import Derived.Test.YtciaeohnkfnamaaDoorTie
set_option linter.all false
namespace Go.Proofs.YtciaeohnkfnamaaDoor.seriesTimesMatchSpec
open Go Go.ChangeShapes Go.WideShapes Go.ChangeAt Go.RowKit Go.Vx
set_option linter.unusedVariables false
theorem op113 {l : List AV} (h : FitsL [.int .i64, .int .i64, .int .i64, .int .i64] l) : ∃ x : api_Part, wf_api_Part x ∧ l = [.int .i64 x.Frame, .int .i64 x.Word, .int .i64 x.Low, .int .i64 x.Bits] := by
  obtain ⟨h1, h2⟩ := h
  match l, h1 with
  | [a0, a1, a2, a3], _ =>
    obtain ⟨x0, w0, rfl⟩ := int_ofW (show Fits (.int .i64) a0 from h2 0 (by simp))
    obtain ⟨x1, w1, rfl⟩ := int_ofW (show Fits (.int .i64) a1 from h2 1 (by simp))
    obtain ⟨x2, w2, rfl⟩ := int_ofW (show Fits (.int .i64) a2 from h2 2 (by simp))
    obtain ⟨x3, w3, rfl⟩ := int_ofW (show Fits (.int .i64) a3 from h2 3 (by simp))
    exact ⟨(api_Part.mk x0 x1 x2 x3), ⟨w0, w1, w2, w3, trivial⟩, rfl⟩
theorem op9 {l : List AV} (h : FitsL [.str] l) : ∃ x : Str, wfS x ∧ l = [.str x] := by
  obtain ⟨h1, h2⟩ := h
  match l, h1 with
  | [a0], _ =>
    obtain ⟨x0, w0, rfl⟩ := str_ofW (show Fits .str a0 from h2 0 (by simp))
    exact ⟨x0, w0, rfl⟩
theorem op25 {l : List AV} (h : FitsL [.str, .int .i64, .sl 113 [.int .i64, .int .i64, .int .i64, .int .i64], .int .i64, .int .i64, .int .i64, .int .i64, .sl 9 [.str]] l) : ∃ x : api_Param, wf_api_Param x ∧ l = [.str x.Name, .int .i64 x.Kind, .sl 113 (List.map R113 x.Parts), .int .i64 x.First, .int .i64 x.Every, .int .i64 x.Times, .int .i64 x.Step, .sl 9 (List.map R9 x.Names)] := by
  obtain ⟨h1, h2⟩ := h
  match l, h1 with
  | [a0, a1, a2, a3, a4, a5, a6, a7], _ =>
    obtain ⟨x0, w0, rfl⟩ := str_ofW (show Fits .str a0 from h2 0 (by simp))
    obtain ⟨x1, w1, rfl⟩ := int_ofW (show Fits (.int .i64) a1 from h2 1 (by simp))
    obtain ⟨x2, w2, rfl⟩ := sl_ofW (f := R113) (p := wf_api_Part) (fun _ h => op113 h) (show Fits (.sl 113 [.int .i64, .int .i64, .int .i64, .int .i64]) a2 from h2 2 (by simp))
    obtain ⟨x3, w3, rfl⟩ := int_ofW (show Fits (.int .i64) a3 from h2 3 (by simp))
    obtain ⟨x4, w4, rfl⟩ := int_ofW (show Fits (.int .i64) a4 from h2 4 (by simp))
    obtain ⟨x5, w5, rfl⟩ := int_ofW (show Fits (.int .i64) a5 from h2 5 (by simp))
    obtain ⟨x6, w6, rfl⟩ := int_ofW (show Fits (.int .i64) a6 from h2 6 (by simp))
    obtain ⟨x7, w7, rfl⟩ := sl_ofW (f := R9) (p := wfS) (fun _ h => op9 h) (show Fits (.sl 9 [.str]) a7 from h2 7 (by simp))
    exact ⟨(api_Param.mk x0 x1 x2 x3 x4 x5 x6 x7), ⟨w0, w1, w2, w3, w4, w5, w6, w7, trivial⟩, rfl⟩
theorem own : ownKnob Tryd.prog.godebug = Option.none := by kernel_rfl
theorem laidOut : laidOutB Tryd.prog = true := by kernel_rfl
theorem sh3 : shOf Tryd.prog 9 3 = some [.int .i64] := by kernel_rfl
theorem sh25 : shOf Tryd.prog 9 25 = some [.str, .int .i64, .sl 113 [.int .i64, .int .i64, .int .i64, .int .i64], .int .i64, .int .i64, .int .i64, .int .i64, .sl 9 [.str]] := by kernel_rfl
set_option maxRecDepth 100000 in
theorem door_met (os : Os) (args : Array Value) : laidMetH Tryd.prog Rows.seriesTimesMatchSpecRow.laid ((World.laidAll Tryd.prog os Rows.seriesTimesMatchSpecRow.laid).forCall (fun _ _ => 0) ⟨#[], args, []⟩).memory := by
  rw [MakeChecks.laidMetH_plain _ _ _ (by kernel_rfl)]; exact laidMet_laidAll _ (by kernel_rfl) (by kernel_rfl)
set_option maxRecDepth 100000 in
theorem glok {W : World} (h : laidMetH Tryd.prog Rows.seriesTimesMatchSpecRow.laid W) : GlOK gl0 W No [] := by
  rw [MakeChecks.laidMetH_plain _ _ _ (by kernel_rfl)] at h
  obtain ⟨ps, ⟨g0, t0, cs0, f0, p0, q0, hg0, ht0, hv0, hd0, ⟨g1, t1, cs1, f1, p1, q1, hg1, ht1, hv1, hd1, ⟨g2, t2, cs2, f2, p2, q2, hg2, ht2, hv2, hd2, _, _⟩, _⟩, _⟩, _, _⟩ := h
  obtain rfl := Option.some.inj ((show Tryd.prog.globalNamed _ = some 1 by kernel_rfl).symm.trans hg2)
  obtain rfl := Option.some.inj ((show (Tryd.prog.globals[1]?).map (·.type) = some 221 by kernel_rfl).symm.trans ht2)
  have hc := Go.Lib.cells_of_tab (zs := Go.Lib.pow10Tab) (k := .u64) Tryd.underlying221 Tryd.underlying180 (by kernel_rfl) (by kernel_rfl) hd2
  obtain ⟨e, fr, hh⟩ := var_heap hg2 hv2
  have he : cs2 = (Go.Lib.pow10Tab.map fun z => Value.int .u64 z).toArray := by rw [← hc]
  rw [he] at hh
  refine ⟨by have := heap_lt hh; show 1 + 1 ≤ _; omega, (fun b h => by cases h), fun p hp => ?_⟩
  obtain rfl : p = (1, (Go.Lib.pow10Tab.map fun z => Value.int .u64 z).toArray) := by simpa [gl0] using hp
  exact ⟨by show 1 < 1 + 1; omega, ⟨e, fr, hh⟩, fun h => h.elim⟩
set_option maxRecDepth 100000 in
theorem lifted (os : Os) (started : os.Started) (H : Type) (enc : TypeId × Value → H) :
    ReturnsInHanded {} Tryd.checked os 3 .any (fun w args => (Rows.seriesTimesMatchSpecSpec.pre enc Tryd.prog Tryd.f3 [] false w args ∧ laidMetH Tryd.prog Rows.seriesTimesMatchSpecRow.laid w) ∧ sizedMet enc Tryd.prog Tryd.f3 (OpenSpec.ofChange Rows.seriesTimesMatchSpecSpec) false w args) (Rows.seriesTimesMatchSpecSpec.post enc Tryd.prog Tryd.f3 false true false false) := by
  refine returnsInHanded_of_change_and (C := Tryd.checked) (X := fun w _ => laidMetH Tryd.prog Rows.seriesTimesMatchSpecRow.laid w) (fun _ _ _ hh h => h.of_heap hh) own started (by kernel_rfl) Tryd.func3
    (ChangeSpec.witness_shaped (enc := enc) (C := Tryd.checked) (os := os) (X := fun w _ => laidMetH Tryd.prog Rows.seriesTimesMatchSpecRow.laid w) false (World.laidAll Tryd.prog os Rows.seriesTimesMatchSpecRow.laid) #[.agg #[.string ⟨#[]⟩, .int .i64 0, .slice none 0 0, .int .i64 0, .int .i64 0, .int .i64 0, .int .i64 0, .slice none 0 0], .int .i64 0] 8 (World.laidAll_os _ _ _) (World.shaped_of_ZipB (by kernel_rfl) (by kernel_rfl)) (by kernel_rfl) (by kernel_rfl) (by kernel_rfl) (door_met os _)) ?_
  intro W base args ds gs before hval0 hW hcnd _ hL _
  have hval : ∀ (j : Nat) t v, Tryd.f3.params[j]? = some t → args[j]? = some v → Value.okWide Tryd.prog W .any base t v := hval0
  have hW' := hW
  obtain ⟨p, q, hA0, hV, rfl, hfz, hnd⟩ := hW
  have hA : DataW.TrodAll enc Tryd.prog W 0 (fun _ => true) true Tryd.f3.params.toList args.toList ds p := hA0
  rw [Tryd.params3] at hA hval
  obtain ⟨v0, vs0, d0, ds0, p0, q0, hargs, rfl, rfl, h0, r0⟩ := trodAll_cons hA
  obtain ⟨v1, vs1, d1, ds1, p1, q1, rfl, rfl, rfl, h1, r1⟩ := trodAll_cons r0
  obtain ⟨rfl, rfl, rfl⟩ := trodAll_nil r1
  obtain rfl : args = #[v0, v1] := by cases args; simp_all
  obtain ⟨rfl, rfl⟩ := trodVars_none hV
  have lt0 : ∀ x ∈ p0, x.block < W.heap.size := by obtain ⟨m, hm⟩ := h0; exact DataW.trod_lt m _ _ _ hm
  obtain ⟨l0, g0, e0⟩ := arg_agg 9 Tryd.underlying25 (hval 0 25 v0 rfl rfl) h0 sh25
  obtain ⟨x0, hx0, rfl⟩ := op25 g0
  have lt1 : ∀ x ∈ p1, x.block < W.heap.size := by obtain ⟨m, hm⟩ := h1; exact DataW.trod_lt m _ _ _ hm
  have c1 : v1.cells = #[v1] := by obtain ⟨_, rfl⟩ := okWide_int Tryd.underlying3 (hval 1 3 v1 rfl rfl); rfl
  obtain ⟨l1, g1, e1⟩ := arg_one 9 c1 h1 sh3
  obtain ⟨x1, hx1, rfl⟩ := int_ofW (show Fits (.int .i64) l1 from g1)
  refine ((ok_law5_SeriesTimesMatchSpec (r := true) (law_STimes x0 x1 hx0)).spec No W #[v0, v1] (fun _ h => h.elim) (glok hL) rfl (fun i hi => ?_)).mono fun e W' ⟨v, he, bel, hr⟩ => ?_
  · match i, hi with
    | 0, _ => exact e0
    | 1, _ => exact e1
  · cases hr
    subst he
    exact ⟨_, rfl, _, _, _, [], _, [], hW', trodAll_mk1 (shut_bool Tryd.underlying4 _), (trodAll_cons_mk (Below.trod laidOut (by kernel_rfl) (of_decide_eq_true (by kernel_rfl)) h0 bel lt0) (trodAll_cons_mk (Below.trod laidOut (by kernel_rfl) (of_decide_eq_true (by kernel_rfl)) h1 bel lt1) trodAll_mk0)), rfl, bel.frame _, fun h => by cases h⟩

theorem jInPlace : (Rows.seriesTimesMatchSpecRow.inPlace == Tryd.prog.inPlace 3) = true := by kernel_rfl
theorem jUnfollowed : (Rows.seriesTimesMatchSpecRow.unfollowed == Tryd.prog.unfollowed 3) = true := by kernel_rfl
theorem jRecurses : (Rows.seriesTimesMatchSpecRow.recurses == Tryd.prog.recurses 3) = true := by kernel_rfl
theorem jNamed : (Rows.seriesTimesMatchSpecRow.named == Tryd.prog.varsNamed 3) = true := by kernel_rfl
set_option maxRecDepth 100000 in
theorem joined : joinedFacts Tryd.prog 3 Tryd.f3 Rows.seriesTimesMatchSpecSpec Rows.seriesTimesMatchSpecRow = true := by
  unfold joinedFacts
  rw [jInPlace, jUnfollowed, jRecurses, jNamed]
  kernel_rfl
theorem over : Rows.seriesTimesMatchSpecRow.holds Tryd.pinned (OpenSpec.ofChange Rows.seriesTimesMatchSpecSpec) :=
  OpenClaim.holds_of_wide 3 Tryd.f3 rfl rfl rfl rfl rfl rfl rfl ⟨rfl, rfl, rfl, rfl, rfl⟩ rfl rfl rfl rfl rfl (by kernel_rfl) Tryd.func3 joined
    (of_decide_eq_true (by kernel_rfl)) (by unfold Func.isWrapper; first | (rw [if_pos (by decide +kernel)]; kernel_rfl) | (rw [if_neg (by decide +kernel)]; exact ⟨rfl, rfl⟩))
    (fun os started H enc _ => lifted os started H enc)
end Go.Proofs.YtciaeohnkfnamaaDoor.seriesTimesMatchSpec
