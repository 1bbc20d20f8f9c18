/- A text of the proof: a verified executor of the program form, or the contracts of the functions that the law reaches. -/
import Derived.Test.YtdacciininlfmaaGreatDoorOkT
import Derived.Test.YtdacciininlfmaaGreatDoorPD
import Derived.Test.YtdacciininlfmaaGreatDoorVH
import Derived.Test.YtdacciininlfmaaGreatDoorVP
import Derived.Test.YtdacciininlfmaaGreatDoorRows
import Derived.WalkKit
import Derived.ProofKit
import Derived.OpenShut
import Derived.ChangeOld
import Derived.Below
import Derived.LaidMore
import Derived.Lay
import Derived.Stop.Joined
import Derived.Lib.LaidTab
import Derived.MakeChecks
import Derived.SevenTiedAt
import Derived.Test.YtdacciininlfmaaGreatDoorCards
import Derived.Test.YtdacciininlfmaaGreatDoorTie
set_option linter.all false
namespace Go.Proofs.YtdacciininlfmaaGreatDoor.topSeriesAreWhatWasGiven
open Go Go.ChangeShapes Go.WideShapes Go.ChangeAt Go.RowKit Go.Vx
set_option linter.unusedVariables false
theorem op128 {l : List AV} (h : Zc9 [.int .i64, .int .i64, .int .i64, .int .i64] l) : ∃ x : api_Part, ZeT x ∧ l = [.int .i64 x.Frame, .int .i64 x.Word, .int .i64 x.Low, .int .i64 x.Bits] := by
  obtain ⟨h1, h2⟩ := h
  match l, h1 with
  | [a0, a1, a2, a3], _ =>
    obtain ⟨x0, w0, rfl⟩ := XB (show Fits (.int .i64) a0 from h2 0 (by simp))
    obtain ⟨x1, w1, rfl⟩ := XB (show Fits (.int .i64) a1 from h2 1 (by simp))
    obtain ⟨x2, w2, rfl⟩ := XB (show Fits (.int .i64) a2 from h2 2 (by simp))
    obtain ⟨x3, w3, rfl⟩ := XB (show Fits (.int .i64) a3 from h2 3 (by simp))
    exact ⟨(api_Part.mk x0 x1 x2 x3), ⟨w0, w1, w2, w3, trivial⟩, rfl⟩
theorem op9 {l : List AV} (h : Zc9 [.str] l) : ∃ x : Str, wfS x ∧ l = [.str x] := by
  obtain ⟨h1, h2⟩ := h
  match l, h1 with
  | [a0], _ =>
    obtain ⟨x0, w0, rfl⟩ := Zj0 (show Fits .str a0 from h2 0 (by simp))
    exact ⟨x0, w0, rfl⟩
theorem op41 {l : List AV} (h : Zc9 [.str, .int .i64, .sl 128 [.int .i64, .int .i64, .int .i64, .int .i64], .int .i64, .int .i64, .int .i64, .int .i64, .sl 9 [.str]] l) : ∃ x : api_Param, ZbF x ∧ l = [.str x.Name, .int .i64 x.Kind, .sl 128 (List.map Z2 x.Parts), .int .i64 x.First, .int .i64 x.Every, .int .i64 x.Times, .int .i64 x.Step, .sl 9 (List.map R9 x.Names)] := by
  obtain ⟨h1, h2⟩ := h
  match l, h1 with
  | [a0, a1, a2, a3, a4, a5, a6, a7], _ =>
    obtain ⟨x0, w0, rfl⟩ := Zj0 (show Fits .str a0 from h2 0 (by simp))
    obtain ⟨x1, w1, rfl⟩ := XB (show Fits (.int .i64) a1 from h2 1 (by simp))
    obtain ⟨x2, w2, rfl⟩ := Zg2 (f := Z2) (p := ZeT) (fun _ h => op128 h) (show Fits (.sl 128 [.int .i64, .int .i64, .int .i64, .int .i64]) a2 from h2 2 (by simp))
    obtain ⟨x3, w3, rfl⟩ := XB (show Fits (.int .i64) a3 from h2 3 (by simp))
    obtain ⟨x4, w4, rfl⟩ := XB (show Fits (.int .i64) a4 from h2 4 (by simp))
    obtain ⟨x5, w5, rfl⟩ := XB (show Fits (.int .i64) a5 from h2 5 (by simp))
    obtain ⟨x6, w6, rfl⟩ := XB (show Fits (.int .i64) a6 from h2 6 (by simp))
    obtain ⟨x7, w7, rfl⟩ := Zg2 (f := R9) (p := wfS) (fun _ h => op9 h) (show Fits (.sl 9 [.str]) a7 from h2 7 (by simp))
    exact ⟨(api_Param.mk x0 x1 x2 x3 x4 x5 x6 x7), ⟨w0, w1, w2, w3, w4, w5, w6, w7, trivial⟩, rfl⟩
theorem op24 {l : List AV} (h : Zc9 [.int .i64, .sl 41 [.str, .int .i64, .sl 128 [.int .i64, .int .i64, .int .i64, .int .i64], .int .i64, .int .i64, .int .i64, .int .i64, .sl 9 [.str]]] l) : ∃ x : api_Map, ZcU x ∧ l = [.int .i64 x.Version, .sl 41 (List.map R41 x.Params)] := by
  obtain ⟨h1, h2⟩ := h
  match l, h1 with
  | [a0, a1], _ =>
    obtain ⟨x0, w0, rfl⟩ := XB (show Fits (.int .i64) a0 from h2 0 (by simp))
    obtain ⟨x1, w1, rfl⟩ := Zg2 (f := R41) (p := ZbF) (fun _ h => op41 h) (show Fits (.sl 41 [.str, .int .i64, .sl 128 [.int .i64, .int .i64, .int .i64, .int .i64], .int .i64, .int .i64, .int .i64, .int .i64, .sl 9 [.str]]) a1 from h2 1 (by simp))
    exact ⟨(api_Map.mk x0 x1), ⟨w0, w1, trivial⟩, rfl⟩
theorem op72 {l : List AV} (h : Zc9 [.int .i64, .int .i64, .int .i64, .int .i64] l) : ∃ x : api_Line, Zda x ∧ l = [.int .i64 x.From, .int .i64 x.To, .int .i64 x.A_, .int .i64 x.B] := by
  obtain ⟨h1, h2⟩ := h
  match l, h1 with
  | [a0, a1, a2, a3], _ =>
    obtain ⟨x0, w0, rfl⟩ := XB (show Fits (.int .i64) a0 from h2 0 (by simp))
    obtain ⟨x1, w1, rfl⟩ := XB (show Fits (.int .i64) a1 from h2 1 (by simp))
    obtain ⟨x2, w2, rfl⟩ := XB (show Fits (.int .i64) a2 from h2 2 (by simp))
    obtain ⟨x3, w3, rfl⟩ := XB (show Fits (.int .i64) a3 from h2 3 (by simp))
    exact ⟨(api_Line.mk x0 x1 x2 x3), ⟨w0, w1, w2, w3, trivial⟩, rfl⟩
theorem op27 {l : List AV} (h : Zc9 [.int .i64, .sl 72 [.int .i64, .int .i64, .int .i64, .int .i64], .int .i64, .int .i64] l) : ∃ x : api_Calibration, JN x ∧ l = [.int .i64 x.Den, .sl 72 (List.map R72 x.Lines), .int .i64 x.Low, .int .i64 x.High] := by
  obtain ⟨h1, h2⟩ := h
  match l, h1 with
  | [a0, a1, a2, a3], _ =>
    obtain ⟨x0, w0, rfl⟩ := XB (show Fits (.int .i64) a0 from h2 0 (by simp))
    obtain ⟨x1, w1, rfl⟩ := Zg2 (f := R72) (p := Zda) (fun _ h => op72 h) (show Fits (.sl 72 [.int .i64, .int .i64, .int .i64, .int .i64]) a1 from h2 1 (by simp))
    obtain ⟨x2, w2, rfl⟩ := XB (show Fits (.int .i64) a2 from h2 2 (by simp))
    obtain ⟨x3, w3, rfl⟩ := XB (show Fits (.int .i64) a3 from h2 3 (by simp))
    exact ⟨(api_Calibration.mk x0 x1 x2 x3), ⟨w0, w1, w2, w3, trivial⟩, rfl⟩
theorem op3 {l : List AV} (h : Zc9 [.int .i64] l) : ∃ x : Int, (wfI .i64) x ∧ l = [.int .i64 x] := by
  obtain ⟨h1, h2⟩ := h
  match l, h1 with
  | [a0], _ =>
    obtain ⟨x0, w0, rfl⟩ := XB (show Fits (.int .i64) a0 from h2 0 (by simp))
    exact ⟨x0, w0, rfl⟩
theorem own : ownKnob Tryz.prog.godebug = Option.none := by kernel_rfl
theorem laidOut : laidOutB Tryz.prog = true := by kernel_rfl
theorem sh3 : ZhF Tryz.prog 9 3 = some [.int .i64] := by kernel_rfl
theorem sh9 : ZhF Tryz.prog 9 9 = some [.str] := by kernel_rfl
theorem sh24 : ZhF Tryz.prog 9 24 = some [.int .i64, .sl 41 [.str, .int .i64, .sl 128 [.int .i64, .int .i64, .int .i64, .int .i64], .int .i64, .int .i64, .int .i64, .int .i64, .sl 9 [.str]]] := by kernel_rfl
theorem sh27 : ZhF Tryz.prog 9 27 = some [.int .i64, .sl 72 [.int .i64, .int .i64, .int .i64, .int .i64], .int .i64, .int .i64] := by kernel_rfl
theorem sh28 : ZhF Tryz.prog 9 28 = some [.sl 3 [.int .i64]] := by kernel_rfl
set_option maxRecDepth 100000 in
theorem door_met (os : Os) (args : Array Value) : laidMetH Tryz.prog Rows.topSeriesAreWhatWasGivenRow.laid ((World.laidAll Tryz.prog os Rows.topSeriesAreWhatWasGivenRow.laid).forCall (fun _ _ => 0) ⟨#[], args, []⟩).memory := by
  rw [MakeChecks.laidMetH_plain _ _ _ (by kernel_rfl)]; exact laidMet_laidAll _ (by kernel_rfl) (by kernel_rfl)
set_option maxRecDepth 100000 in
theorem glok {W : World} (h : laidMetH Tryz.prog Rows.topSeriesAreWhatWasGivenRow.laid W) : GlOK gl0 W No [] := by
  rw [MakeChecks.laidMetH_plain _ _ _ (by kernel_rfl)] at h
  obtain ⟨ps, ⟨g0, t0, cs0, f0, p0, q0, hg0, ht0, hv0, hd0, _, _⟩, _, _⟩ := h
  obtain rfl := Option.some.inj ((show Tryz.prog.globalNamed _ = some 0 by kernel_rfl).symm.trans hg0)
  obtain rfl := Option.some.inj ((show (Tryz.prog.globals[0]?).map (·.type) = some 125 by kernel_rfl).symm.trans ht0)
  have hc0 := Go.Lib.cells_of_tab (zs := gv_frame_syncs.toList) (k := .u16) Tryz.underlying125 Tryz.underlying47 (by kernel_rfl) (by kernel_rfl) hd0
  obtain ⟨e0, fr0, hh0⟩ := ZnV hg0 hv0
  have he0 : cs0 = (gv_frame_syncs.toList.map fun z => Value.int .u16 z).toArray := by rw [← hc0]
  rw [he0] at hh0
  refine ⟨by have := ZpT hh0; show 1 ≤ _; omega, (fun b h => by cases h), fun p hp => ?_⟩
  have hp : p ∈ [(0, (gv_frame_syncs.toList.map fun z => Value.int .u16 z).toArray)] := hp
  rcases List.mem_cons.1 hp with rfl | hp
  · exact ⟨by show 0 < 1; omega, ⟨e0, fr0, hh0⟩, fun h => h.elim⟩
  cases hp
set_option maxRecDepth 100000 in
theorem lifted (os : Os) (started : os.Started) (H : Type) (enc : TypeId × Value → H) :
    ReturnsInHanded {} Tryz.checked os 3 .any (fun w args => (Rows.topSeriesAreWhatWasGivenSpec.pre enc Tryz.prog Tryz.f3 [] false w args ∧ laidMetH Tryz.prog Rows.topSeriesAreWhatWasGivenRow.laid w) ∧ sizedMet enc Tryz.prog Tryz.f3 (OpenSpec.ofChange Rows.topSeriesAreWhatWasGivenSpec) false w args) (Rows.topSeriesAreWhatWasGivenSpec.post enc Tryz.prog Tryz.f3 false true false false) := by
  refine returnsInHanded_of_change_and (C := Tryz.checked) (X := fun w _ => laidMetH Tryz.prog Rows.topSeriesAreWhatWasGivenRow.laid w) (fun _ _ _ hh h => h.of_heap hh) own started (by kernel_rfl) Tryz.func3
    (ChangeSpec.witness_shaped (enc := enc) (C := Tryz.checked) (os := os) (X := fun w _ => laidMetH Tryz.prog Rows.topSeriesAreWhatWasGivenRow.laid w) false (World.laidAll Tryz.prog os Rows.topSeriesAreWhatWasGivenRow.laid) #[.agg #[.int .i64 0, .slice none 0 0], .string ⟨#[]⟩, .agg #[.int .i64 0, .slice none 0 0, .int .i64 0, .int .i64 0], .int .i64 0, .slice none 0 0, .slice none 0 0] 8 (World.laidAll_os _ _ _) (World.shaped_of_ZipB (by kernel_rfl) (by kernel_rfl)) (by kernel_rfl) (by kernel_rfl) (by kernel_rfl) (door_met os _)) ?_
  intro W base args ds gs before hval0 hW hcnd hz hL _
  have hval : ∀ (j : Nat) t v, Tryz.f3.params[j]? = some t → args[j]? = some v → Value.okWide Tryz.prog W .any base t v := hval0
  have hW' := hW
  obtain ⟨p, q, hA0, hV, rfl, hfz, hnd⟩ := hW
  have hA : DataW.TrodAll enc Tryz.prog W 0 (fun _ => true) true Tryz.f3.params.toList args.toList ds p := hA0
  rw [Tryz.params3] at hA hval
  obtain ⟨v0, vs0, d0, ds0, p0, q0, hargs, rfl, rfl, h0, r0⟩ := trodAll_cons hA
  obtain ⟨v1, vs1, d1, ds1, p1, q1, rfl, rfl, rfl, h1, r1⟩ := trodAll_cons r0
  obtain ⟨v2, vs2, d2, ds2, p2, q2, rfl, rfl, rfl, h2, r2⟩ := trodAll_cons r1
  obtain ⟨v3, vs3, d3, ds3, p3, q3, rfl, rfl, rfl, h3, r3⟩ := trodAll_cons r2
  obtain ⟨v4, vs4, d4, ds4, p4, q4, rfl, rfl, rfl, h4, r4⟩ := trodAll_cons r3
  obtain ⟨v5, vs5, d5, ds5, p5, q5, rfl, rfl, rfl, h5, r5⟩ := trodAll_cons r4
  obtain ⟨rfl, rfl, rfl⟩ := trodAll_nil r5
  obtain rfl : args = #[v0, v1, v2, v3, v4, v5] := by cases args; simp_all
  obtain ⟨rfl, rfl⟩ := trodVars_none hV
  have lt0 : ∀ x ∈ p0, x.block < W.heap.size := by obtain ⟨m, hm⟩ := h0; exact DataW.trod_lt m _ _ _ hm
  obtain ⟨l0, g0, e0⟩ := Zl2 9 Tryz.underlying24 (hval 0 24 v0 rfl rfl) h0 sh24
  obtain ⟨x0, hx0, rfl⟩ := op24 g0
  have lt1 : ∀ x ∈ p1, x.block < W.heap.size := by obtain ⟨m, hm⟩ := h1; exact DataW.trod_lt m _ _ _ hm
  have c1 : v1.cells = #[v1] := by obtain ⟨_, rfl⟩ := okWide_string Tryz.underlying9 (hval 1 9 v1 rfl rfl); rfl
  obtain ⟨l1, g1, e1⟩ := ZhN 9 c1 h1 sh9
  obtain ⟨x1, hx1, rfl⟩ := Zj0 (show Fits .str l1 from g1)
  have lt2 : ∀ x ∈ p2, x.block < W.heap.size := by obtain ⟨m, hm⟩ := h2; exact DataW.trod_lt m _ _ _ hm
  obtain ⟨l2, g2, e2⟩ := Zl2 9 Tryz.underlying27 (hval 2 27 v2 rfl rfl) h2 sh27
  obtain ⟨x2, hx2, rfl⟩ := op27 g2
  have lt3 : ∀ x ∈ p3, x.block < W.heap.size := by obtain ⟨m, hm⟩ := h3; exact DataW.trod_lt m _ _ _ hm
  have c3 : v3.cells = #[v3] := by obtain ⟨_, rfl⟩ := okWide_int Tryz.underlying3 (hval 3 3 v3 rfl rfl); rfl
  obtain ⟨l3, g3, e3⟩ := ZhN 9 c3 h3 sh3
  obtain ⟨x3, hx3, rfl⟩ := XB (show Fits (.int .i64) l3 from g3)
  have lt4 : ∀ x ∈ p4, x.block < W.heap.size := by obtain ⟨m, hm⟩ := h4; exact DataW.trod_lt m _ _ _ hm
  have c4 : v4.cells = #[v4] := by obtain ⟨_, _, _, rfl⟩ := okWide_slice Tryz.underlying28 (hval 4 28 v4 rfl rfl); rfl
  obtain ⟨l4, g4, e4⟩ := ZhN 9 c4 h4 sh28
  obtain ⟨x4, hx4, rfl⟩ := Zg2 (f := R3) (p := (wfI .i64)) (fun _ h => op3 h) (show Fits (.sl 3 [.int .i64]) l4 from g4)
  have lt5 : ∀ x ∈ p5, x.block < W.heap.size := by obtain ⟨m, hm⟩ := h5; exact DataW.trod_lt m _ _ _ hm
  have c5 : v5.cells = #[v5] := by obtain ⟨_, _, _, rfl⟩ := okWide_slice Tryz.underlying28 (hval 5 28 v5 rfl rfl); rfl
  obtain ⟨l5, g5, e5⟩ := ZhN 9 c5 h5 sh28
  obtain ⟨x5, hx5, rfl⟩ := Zg2 (f := R3) (p := (wfI .i64)) (fun _ h => op3 h) (show Fits (.sl 3 [.int .i64]) l5 from g5)
  refine ((ZbQ (r := true) (Zko x0 x1 x2 x3 x4 x5 hx0 hx2 hx5)).spec No W #[v0, v1, v2, v3, v4, v5] (fun _ h => h.elim) (glok hL) rfl (fun i hi => ?_)).mono fun e W' ⟨v, he, bel, hr⟩ => ?_
  · match i, hi with
    | 0, _ => exact e0
    | 1, _ => exact e1
    | 2, _ => exact e2
    | 3, _ => exact e3
    | 4, _ => exact e4
    | 5, _ => exact e5
  · cases hr
    subst he
    exact ⟨_, rfl, _, _, _, [], _, [], hW', trodAll_mk1 (shut_bool Tryz.underlying4 _), (trodAll_cons_mk (Below.trod laidOut (by kernel_rfl) (of_decide_eq_true (by kernel_rfl)) h0 bel lt0) (trodAll_cons_mk (Below.trod laidOut (by kernel_rfl) (of_decide_eq_true (by kernel_rfl)) h1 bel lt1) (trodAll_cons_mk (Below.trod laidOut (by kernel_rfl) (of_decide_eq_true (by kernel_rfl)) h2 bel lt2) (trodAll_cons_mk (Below.trod laidOut (by kernel_rfl) (of_decide_eq_true (by kernel_rfl)) h3 bel lt3) (trodAll_cons_mk (Below.trod laidOut (by kernel_rfl) (of_decide_eq_true (by kernel_rfl)) h4 bel lt4) (trodAll_cons_mk (Below.trod laidOut (by kernel_rfl) (of_decide_eq_true (by kernel_rfl)) h5 bel lt5) trodAll_mk0)))))), rfl, bel.frame _, fun h => by cases h⟩

theorem jInPlace : (Rows.topSeriesAreWhatWasGivenRow.inPlace == Tryz.prog.inPlace 3) = true := by kernel_rfl
theorem jUnfollowed : (Rows.topSeriesAreWhatWasGivenRow.unfollowed == Tryz.prog.unfollowed 3) = true := by kernel_rfl
theorem jRecurses : (Rows.topSeriesAreWhatWasGivenRow.recurses == Tryz.prog.recurses 3) = true := by kernel_rfl
theorem jNamed : (Rows.topSeriesAreWhatWasGivenRow.named == Tryz.prog.varsNamed 3) = true := by kernel_rfl
set_option maxRecDepth 100000 in
theorem joined : joinedFacts Tryz.prog 3 Tryz.f3 Rows.topSeriesAreWhatWasGivenSpec Rows.topSeriesAreWhatWasGivenRow = true := by
  unfold joinedFacts
  rw [jInPlace, jUnfollowed, jRecurses, jNamed]
  kernel_rfl
theorem over : Rows.topSeriesAreWhatWasGivenRow.holds Tryz.pinned (OpenSpec.ofChange Rows.topSeriesAreWhatWasGivenSpec) :=
  OpenClaim.holds_of_wide 3 Tryz.f3 rfl rfl rfl rfl rfl rfl rfl ⟨rfl, rfl, rfl, rfl, rfl⟩ rfl rfl rfl rfl rfl (by kernel_rfl) Tryz.func3 joined
    (of_decide_eq_true (by kernel_rfl)) (by unfold Func.isWrapper; first | (rw [if_pos (by decide +kernel)]; kernel_rfl) | (rw [if_neg (by decide +kernel)]; exact ⟨rfl, rfl⟩))
    (fun os started H enc _ => lifted os started H enc)
end Go.Proofs.YtdacciininlfmaaGreatDoor.topSeriesAreWhatWasGiven
