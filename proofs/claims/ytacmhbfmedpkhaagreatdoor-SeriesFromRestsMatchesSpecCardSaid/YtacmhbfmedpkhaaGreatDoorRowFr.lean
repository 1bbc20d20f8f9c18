/- A text of the proof: a verified executor of the program form, or the contracts of the functions that the law reaches. -/
import Derived.Test.YtacmhbfmedpkhaaGreatDoorOkF
import Derived.Test.YtacmhbfmedpkhaaGreatDoorPC
import Derived.Test.YtacmhbfmedpkhaaGreatDoorVR
import Derived.Test.YtacmhbfmedpkhaaGreatDoorVH
import Derived.Test.YtacmhbfmedpkhaaGreatDoorVP
import Derived.Test.YtacmhbfmedpkhaaGreatDoorRows
import Derived.WalkKit
import Derived.ProofKit
import Derived.OpenShut
import Derived.ChangeOld
import Derived.Below
import Derived.LaidMore
import Derived.Lay
import Derived.Stop.Joined
import Derived.Lib.LaidTab
import Derived.MakeChecks
import Derived.SevenTiedAt
import Derived.Test.YtacmhbfmedpkhaaGreatDoorCards
import Derived.Test.YtacmhbfmedpkhaaGreatDoorTie
set_option linter.all false
namespace Go.Proofs.YtacmhbfmedpkhaaGreatDoor.seriesFromRestsMatchesSpec
open Go Go.ChangeShapes Go.WideShapes Go.ChangeAt Go.RowKit Go.Vx
set_option linter.unusedVariables false
theorem op121 {l : List AV} (h : Zbc [.int .i64, .int .i64, .int .i64, .int .i64] l) : ∃ x : api_Part, Ze8 x ∧ l = [.int .i64 x.Frame, .int .i64 x.Word, .int .i64 x.Low, .int .i64 x.Bits] := by
  obtain ⟨h1, h2⟩ := h
  match l, h1 with
  | [a0, a1, a2, a3], _ =>
    obtain ⟨x0, w0, rfl⟩ := Xe (show Fits (.int .i64) a0 from h2 0 (by simp))
    obtain ⟨x1, w1, rfl⟩ := Xe (show Fits (.int .i64) a1 from h2 1 (by simp))
    obtain ⟨x2, w2, rfl⟩ := Xe (show Fits (.int .i64) a2 from h2 2 (by simp))
    obtain ⟨x3, w3, rfl⟩ := Xe (show Fits (.int .i64) a3 from h2 3 (by simp))
    exact ⟨(api_Part.mk x0 x1 x2 x3), ⟨w0, w1, w2, w3, trivial⟩, rfl⟩
theorem op9 {l : List AV} (h : Zbc [.str] l) : ∃ x : Str, wfS x ∧ l = [.str x] := by
  obtain ⟨h1, h2⟩ := h
  match l, h1 with
  | [a0], _ =>
    obtain ⟨x0, w0, rfl⟩ := ZkD (show Fits .str a0 from h2 0 (by simp))
    exact ⟨x0, w0, rfl⟩
theorem op45 {l : List AV} (h : Zbc [.str, .int .i64, .sl 121 [.int .i64, .int .i64, .int .i64, .int .i64], .int .i64, .int .i64, .int .i64, .int .i64, .sl 9 [.str]] l) : ∃ x : api_Param, Xg x ∧ l = [.str x.Name, .int .i64 x.Kind, .sl 121 (List.map Z9 x.Parts), .int .i64 x.First, .int .i64 x.Every, .int .i64 x.Times, .int .i64 x.Step, .sl 9 (List.map R9 x.Names)] := by
  obtain ⟨h1, h2⟩ := h
  match l, h1 with
  | [a0, a1, a2, a3, a4, a5, a6, a7], _ =>
    obtain ⟨x0, w0, rfl⟩ := ZkD (show Fits .str a0 from h2 0 (by simp))
    obtain ⟨x1, w1, rfl⟩ := Xe (show Fits (.int .i64) a1 from h2 1 (by simp))
    obtain ⟨x2, w2, rfl⟩ := Zi9 (f := Z9) (p := Ze8) (fun _ h => op121 h) (show Fits (.sl 121 [.int .i64, .int .i64, .int .i64, .int .i64]) a2 from h2 2 (by simp))
    obtain ⟨x3, w3, rfl⟩ := Xe (show Fits (.int .i64) a3 from h2 3 (by simp))
    obtain ⟨x4, w4, rfl⟩ := Xe (show Fits (.int .i64) a4 from h2 4 (by simp))
    obtain ⟨x5, w5, rfl⟩ := Xe (show Fits (.int .i64) a5 from h2 5 (by simp))
    obtain ⟨x6, w6, rfl⟩ := Xe (show Fits (.int .i64) a6 from h2 6 (by simp))
    obtain ⟨x7, w7, rfl⟩ := Zi9 (f := R9) (p := wfS) (fun _ h => op9 h) (show Fits (.sl 9 [.str]) a7 from h2 7 (by simp))
    exact ⟨(api_Param.mk x0 x1 x2 x3 x4 x5 x6 x7), ⟨w0, w1, w2, w3, w4, w5, w6, w7, trivial⟩, rfl⟩
theorem op24 {l : List AV} (h : Zbc [.int .i64, .sl 45 [.str, .int .i64, .sl 121 [.int .i64, .int .i64, .int .i64, .int .i64], .int .i64, .int .i64, .int .i64, .int .i64, .sl 9 [.str]]] l) : ∃ x : api_Map, ZbH x ∧ l = [.int .i64 x.Version, .sl 45 (List.map R45 x.Params)] := by
  obtain ⟨h1, h2⟩ := h
  match l, h1 with
  | [a0, a1], _ =>
    obtain ⟨x0, w0, rfl⟩ := Xe (show Fits (.int .i64) a0 from h2 0 (by simp))
    obtain ⟨x1, w1, rfl⟩ := Zi9 (f := R45) (p := Xg) (fun _ h => op45 h) (show Fits (.sl 45 [.str, .int .i64, .sl 121 [.int .i64, .int .i64, .int .i64, .int .i64], .int .i64, .int .i64, .int .i64, .int .i64, .sl 9 [.str]]) a1 from h2 1 (by simp))
    exact ⟨(api_Map.mk x0 x1), ⟨w0, w1, trivial⟩, rfl⟩
theorem op56 {l : List AV} (h : Zbc (.int .i64 :: (List.replicate 64 (.int .u16) ++ (List.replicate 64 (.int .i64) ++ (.bool :: (.int .i64 :: (.bool :: [])))))) l) : ∃ x : api_Rest, XM x ∧ l = (.int .i64 x.Number) :: ((List.map C51 x.Frame.toList) ++ (((List.map C3 x.States.toList) ++ ((.bool x.Sound) :: (.int .i64 x.Copies) :: (.bool x.Conflict) :: [])))) := by
  obtain ⟨a0, l0, rfl, f0, h0⟩ := Zem h
  obtain ⟨x0, w0, rfl⟩ := Xe (show Fits (.int .i64) a0 from f0)
  obtain ⟨a1, l1, rfl, f1, h1⟩ := ZiH h0
  obtain ⟨x1, w1, rfl⟩ := ZmE (f := fun z => AV.int .u16 z) (p := (wfI .u16)) (fun a ha => Xe (show Fits (.int .u16) a from ha)) f1
  obtain ⟨a2, l2, rfl, f2, h2⟩ := ZiH h1
  obtain ⟨x2, w2, rfl⟩ := ZmE (f := fun z => AV.int .i64 z) (p := (wfI .i64)) (fun a ha => Xe (show Fits (.int .i64) a from ha)) f2
  obtain ⟨a3, l3, rfl, f3, h3⟩ := Zem h2
  obtain ⟨x3, w3, rfl⟩ := ZlY (show Fits .bool a3 from f3)
  obtain ⟨a4, l4, rfl, f4, h4⟩ := Zem h3
  obtain ⟨x4, w4, rfl⟩ := Xe (show Fits (.int .i64) a4 from f4)
  obtain ⟨a5, l5, rfl, f5, h5⟩ := Zem h4
  obtain ⟨x5, w5, rfl⟩ := ZlY (show Fits .bool a5 from f5)
  obtain rfl := Zoq h5
  exact ⟨api_Rest.mk x0 x1 x2 x3 x4 x5, ⟨w0, w1, w2, w3, w4, w5, trivial⟩, rfl⟩
theorem op101 {l : List AV} (h : Zbc [.int .i64, .int .i64, .int .i64, .int .i64] l) : ∃ x : api_Line, Zfg x ∧ l = [.int .i64 x.From, .int .i64 x.To, .int .i64 x.A_, .int .i64 x.B] := by
  obtain ⟨h1, h2⟩ := h
  match l, h1 with
  | [a0, a1, a2, a3], _ =>
    obtain ⟨x0, w0, rfl⟩ := Xe (show Fits (.int .i64) a0 from h2 0 (by simp))
    obtain ⟨x1, w1, rfl⟩ := Xe (show Fits (.int .i64) a1 from h2 1 (by simp))
    obtain ⟨x2, w2, rfl⟩ := Xe (show Fits (.int .i64) a2 from h2 2 (by simp))
    obtain ⟨x3, w3, rfl⟩ := Xe (show Fits (.int .i64) a3 from h2 3 (by simp))
    exact ⟨(api_Line.mk x0 x1 x2 x3), ⟨w0, w1, w2, w3, trivial⟩, rfl⟩
theorem op28 {l : List AV} (h : Zbc [.int .i64, .sl 101 [.int .i64, .int .i64, .int .i64, .int .i64], .int .i64, .int .i64] l) : ∃ x : api_Calibration, Zgt x ∧ l = [.int .i64 x.Den, .sl 101 (List.map Jw x.Lines), .int .i64 x.Low, .int .i64 x.High] := by
  obtain ⟨h1, h2⟩ := h
  match l, h1 with
  | [a0, a1, a2, a3], _ =>
    obtain ⟨x0, w0, rfl⟩ := Xe (show Fits (.int .i64) a0 from h2 0 (by simp))
    obtain ⟨x1, w1, rfl⟩ := Zi9 (f := Jw) (p := Zfg) (fun _ h => op101 h) (show Fits (.sl 101 [.int .i64, .int .i64, .int .i64, .int .i64]) a1 from h2 1 (by simp))
    obtain ⟨x2, w2, rfl⟩ := Xe (show Fits (.int .i64) a2 from h2 2 (by simp))
    obtain ⟨x3, w3, rfl⟩ := Xe (show Fits (.int .i64) a3 from h2 3 (by simp))
    exact ⟨(api_Calibration.mk x0 x1 x2 x3), ⟨w0, w1, w2, w3, trivial⟩, rfl⟩
theorem own : ownKnob Tryz.prog.godebug = Option.none := by kernel_rfl
theorem laidOut : laidOutB Tryz.prog = true := by kernel_rfl
theorem sh9 : ZiX Tryz.prog 9 9 = some [.str] := by kernel_rfl
theorem sh24 : ZiX Tryz.prog 9 24 = some [.int .i64, .sl 45 [.str, .int .i64, .sl 121 [.int .i64, .int .i64, .int .i64, .int .i64], .int .i64, .int .i64, .int .i64, .int .i64, .sl 9 [.str]]] := by kernel_rfl
theorem sh25 : ZiX Tryz.prog 9 25 = some [.sl 56 (.int .i64 :: (List.replicate 64 (.int .u16) ++ (List.replicate 64 (.int .i64) ++ (.bool :: (.int .i64 :: (.bool :: []))))))] := by kernel_rfl
theorem sh28 : ZiX Tryz.prog 9 28 = some [.int .i64, .sl 101 [.int .i64, .int .i64, .int .i64, .int .i64], .int .i64, .int .i64] := by kernel_rfl
set_option maxRecDepth 100000 in
theorem door_met (os : Os) (args : Array Value) : laidMetH Tryz.prog Rows.seriesFromRestsMatchesSpecRow.laid ((World.laidAll Tryz.prog os Rows.seriesFromRestsMatchesSpecRow.laid).forCall (fun _ _ => 0) ⟨#[], args, []⟩).memory := by
  rw [MakeChecks.laidMetH_plain _ _ _ (by kernel_rfl)]; exact laidMet_laidAll _ (by kernel_rfl) (by kernel_rfl)
set_option maxRecDepth 100000 in
theorem glok {W : World} (h : laidMetH Tryz.prog Rows.seriesFromRestsMatchesSpecRow.laid W) : GlOK gl0 W No [] := by
  rw [MakeChecks.laidMetH_plain _ _ _ (by kernel_rfl)] at h
  obtain ⟨ps, ⟨g0, t0, cs0, f0, p0, q0, hg0, ht0, hv0, hd0, ⟨g1, t1, cs1, f1, p1, q1, hg1, ht1, hv1, hd1, ⟨g2, t2, cs2, f2, p2, q2, hg2, ht2, hv2, hd2, ⟨g3, t3, cs3, f3, p3, q3, hg3, ht3, hv3, hd3, _, _⟩, _⟩, _⟩, _⟩, _, _⟩ := h
  obtain rfl := Option.some.inj ((show Tryz.prog.globalNamed _ = some 0 by kernel_rfl).symm.trans hg3)
  obtain rfl := Option.some.inj ((show (Tryz.prog.globals[0]?).map (·.type) = some 177 by kernel_rfl).symm.trans ht3)
  have hc0 := Go.Lib.cells_of_tab (zs := gv_frame_syncs.toList) (k := .u16) Tryz.underlying177 Tryz.underlying51 (by kernel_rfl) (by kernel_rfl) hd3
  obtain ⟨e0, fr0, hh0⟩ := Zlv hg3 hv3
  have he0 : cs3 = (gv_frame_syncs.toList.map fun z => Value.int .u16 z).toArray := by rw [← hc0]
  rw [he0] at hh0
  obtain rfl := Option.some.inj ((show Tryz.prog.globalNamed _ = some 1 by kernel_rfl).symm.trans hg2)
  obtain rfl := Option.some.inj ((show (Tryz.prog.globals[1]?).map (·.type) = some 190 by kernel_rfl).symm.trans ht2)
  have hc1 := Go.Lib.cells_of_tab (zs := Go.Lib.pow10Tab) (k := .u64) Tryz.underlying190 Tryz.underlying167 (by kernel_rfl) (by kernel_rfl) hd2
  obtain ⟨e1, fr1, hh1⟩ := Zlv hg2 hv2
  have he1 : cs2 = (Go.Lib.pow10Tab.map fun z => Value.int .u64 z).toArray := by rw [← hc1]
  rw [he1] at hh1
  refine ⟨by have := ZpY hh1; show 2 ≤ _; omega, (fun b h => by cases h), fun p hp => ?_⟩
  have hp : p ∈ [(0, (gv_frame_syncs.toList.map fun z => Value.int .u16 z).toArray), (1, (Go.Lib.pow10Tab.map fun z => Value.int .u64 z).toArray)] := hp
  rcases List.mem_cons.1 hp with rfl | hp
  · exact ⟨by show 0 < 2; omega, ⟨e0, fr0, hh0⟩, fun h => h.elim⟩
  rcases List.mem_cons.1 hp with rfl | hp
  · exact ⟨by show 1 < 2; omega, ⟨e1, fr1, hh1⟩, fun h => h.elim⟩
  cases hp
set_option maxRecDepth 100000 in
theorem lifted (os : Os) (started : os.Started) (H : Type) (enc : TypeId × Value → H) :
    ReturnsInHanded {} Tryz.checked os 3 .any (fun w args => (Rows.seriesFromRestsMatchesSpecSpec.pre enc Tryz.prog Tryz.f3 [] false w args ∧ laidMetH Tryz.prog Rows.seriesFromRestsMatchesSpecRow.laid w) ∧ sizedMet enc Tryz.prog Tryz.f3 (OpenSpec.ofChange Rows.seriesFromRestsMatchesSpecSpec) false w args) (Rows.seriesFromRestsMatchesSpecSpec.post enc Tryz.prog Tryz.f3 false true false false) := by
  refine returnsInHanded_of_change_and (C := Tryz.checked) (X := fun w _ => laidMetH Tryz.prog Rows.seriesFromRestsMatchesSpecRow.laid w) (fun _ _ _ hh h => h.of_heap hh) own started (by kernel_rfl) Tryz.func3
    (ChangeSpec.witness_shaped (enc := enc) (C := Tryz.checked) (os := os) (X := fun w _ => laidMetH Tryz.prog Rows.seriesFromRestsMatchesSpecRow.laid w) false (World.laidAll Tryz.prog os Rows.seriesFromRestsMatchesSpecRow.laid) #[.agg #[.int .i64 0, .slice none 0 0], .string ⟨#[]⟩, .slice none 0 0, .agg #[.int .i64 0, .slice none 0 0, .int .i64 0, .int .i64 0]] 8 (World.laidAll_os _ _ _) (World.shaped_of_ZipB (by kernel_rfl) (by kernel_rfl)) (by kernel_rfl) (by kernel_rfl) (by kernel_rfl) (door_met os _)) ?_
  intro W base args ds gs before hval0 hW hcnd hz hL _
  have hval : ∀ (j : Nat) t v, Tryz.f3.params[j]? = some t → args[j]? = some v → Value.okWide Tryz.prog W .any base t v := hval0
  have hW' := hW
  obtain ⟨p, q, hA0, hV, rfl, hfz, hnd⟩ := hW
  have hA : DataW.TrodAll enc Tryz.prog W 0 (fun _ => true) true Tryz.f3.params.toList args.toList ds p := hA0
  rw [Tryz.params3] at hA hval
  obtain ⟨v0, vs0, d0, ds0, p0, q0, hargs, rfl, rfl, h0, r0⟩ := trodAll_cons hA
  obtain ⟨v1, vs1, d1, ds1, p1, q1, rfl, rfl, rfl, h1, r1⟩ := trodAll_cons r0
  obtain ⟨v2, vs2, d2, ds2, p2, q2, rfl, rfl, rfl, h2, r2⟩ := trodAll_cons r1
  obtain ⟨v3, vs3, d3, ds3, p3, q3, rfl, rfl, rfl, h3, r3⟩ := trodAll_cons r2
  obtain ⟨rfl, rfl, rfl⟩ := trodAll_nil r3
  obtain rfl : args = #[v0, v1, v2, v3] := by cases args; simp_all
  obtain ⟨rfl, rfl⟩ := trodVars_none hV
  have lt0 : ∀ x ∈ p0, x.block < W.heap.size := by obtain ⟨m, hm⟩ := h0; exact DataW.trod_lt m _ _ _ hm
  obtain ⟨l0, g0, e0⟩ := ZmT 9 Tryz.underlying24 (hval 0 24 v0 rfl rfl) h0 sh24
  obtain ⟨x0, hx0, rfl⟩ := op24 g0
  have lt1 : ∀ x ∈ p1, x.block < W.heap.size := by obtain ⟨m, hm⟩ := h1; exact DataW.trod_lt m _ _ _ hm
  have c1 : v1.cells = #[v1] := by obtain ⟨_, rfl⟩ := okWide_string Tryz.underlying9 (hval 1 9 v1 rfl rfl); rfl
  obtain ⟨l1, g1, e1⟩ := ZmL 9 c1 h1 sh9
  obtain ⟨x1, hx1, rfl⟩ := ZkD (show Fits .str l1 from g1)
  have lt2 : ∀ x ∈ p2, x.block < W.heap.size := by obtain ⟨m, hm⟩ := h2; exact DataW.trod_lt m _ _ _ hm
  have c2 : v2.cells = #[v2] := by obtain ⟨_, _, _, rfl⟩ := okWide_slice Tryz.underlying25 (hval 2 25 v2 rfl rfl); rfl
  obtain ⟨l2, g2, e2⟩ := ZmL 9 c2 h2 sh25
  obtain ⟨x2, hx2, rfl⟩ := Zi9 (f := R56) (p := XM) (fun _ h => op56 h) (show Fits (.sl 56 (.int .i64 :: (List.replicate 64 (.int .u16) ++ (List.replicate 64 (.int .i64) ++ (.bool :: (.int .i64 :: (.bool :: []))))))) l2 from g2)
  have lt3 : ∀ x ∈ p3, x.block < W.heap.size := by obtain ⟨m, hm⟩ := h3; exact DataW.trod_lt m _ _ _ hm
  obtain ⟨l3, g3, e3⟩ := ZmT 9 Tryz.underlying28 (hval 3 28 v3 rfl rfl) h3 sh28
  obtain ⟨x3, hx3, rfl⟩ := op28 g3
  refine ((ZbJ (r := true) (Zjs x0 x1 x2 x3 hx0 hx2)).spec No W #[v0, v1, v2, v3] (fun _ h => h.elim) (glok hL) rfl (fun i hi => ?_)).mono fun e W' ⟨v, he, bel, hr⟩ => ?_
  · match i, hi with
    | 0, _ => exact e0
    | 1, _ => exact e1
    | 2, _ => exact e2
    | 3, _ => exact e3
  · cases hr
    subst he
    exact ⟨_, rfl, _, _, _, [], _, [], hW', trodAll_mk1 (shut_bool Tryz.underlying4 _), (trodAll_cons_mk (Below.trod laidOut (by kernel_rfl) (of_decide_eq_true (by kernel_rfl)) h0 bel lt0) (trodAll_cons_mk (Below.trod laidOut (by kernel_rfl) (of_decide_eq_true (by kernel_rfl)) h1 bel lt1) (trodAll_cons_mk (Below.trod laidOut (by kernel_rfl) (of_decide_eq_true (by kernel_rfl)) h2 bel lt2) (trodAll_cons_mk (Below.trod laidOut (by kernel_rfl) (of_decide_eq_true (by kernel_rfl)) h3 bel lt3) trodAll_mk0)))), rfl, bel.frame _, fun h => by cases h⟩

theorem jInPlace : (Rows.seriesFromRestsMatchesSpecRow.inPlace == Tryz.prog.inPlace 3) = true := by kernel_rfl
theorem jUnfollowed : (Rows.seriesFromRestsMatchesSpecRow.unfollowed == Tryz.prog.unfollowed 3) = true := by kernel_rfl
theorem jRecurses : (Rows.seriesFromRestsMatchesSpecRow.recurses == Tryz.prog.recurses 3) = true := by kernel_rfl
theorem jNamed : (Rows.seriesFromRestsMatchesSpecRow.named == Tryz.prog.varsNamed 3) = true := by kernel_rfl
set_option maxRecDepth 100000 in
theorem joined : joinedFacts Tryz.prog 3 Tryz.f3 Rows.seriesFromRestsMatchesSpecSpec Rows.seriesFromRestsMatchesSpecRow = true := by
  unfold joinedFacts
  rw [jInPlace, jUnfollowed, jRecurses, jNamed]
  kernel_rfl
theorem over : Rows.seriesFromRestsMatchesSpecRow.holds Tryz.pinned (OpenSpec.ofChange Rows.seriesFromRestsMatchesSpecSpec) :=
  OpenClaim.holds_of_wide 3 Tryz.f3 rfl rfl rfl rfl rfl rfl rfl ⟨rfl, rfl, rfl, rfl, rfl⟩ rfl rfl rfl rfl rfl (by kernel_rfl) Tryz.func3 joined
    (of_decide_eq_true (by kernel_rfl)) (by unfold Func.isWrapper; first | (rw [if_pos (by decide +kernel)]; kernel_rfl) | (rw [if_neg (by decide +kernel)]; exact ⟨rfl, rfl⟩))
    (fun os started H enc _ => lifted os started H enc)
end Go.Proofs.YtacmhbfmedpkhaaGreatDoor.seriesFromRestsMatchesSpec
