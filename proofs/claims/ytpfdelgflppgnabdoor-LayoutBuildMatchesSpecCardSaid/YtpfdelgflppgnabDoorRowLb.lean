/- A text of the proof: a verified executor of the program form, or the contracts of the functions that the law reaches. -/
import Derived.Test.YtpfdelgflppgnabDoorOkB
import Derived.Test.YtpfdelgflppgnabDoorPC
import Derived.Test.YtpfdelgflppgnabDoorVH
import Derived.Test.YtpfdelgflppgnabDoorVP
import Derived.Test.YtpfdelgflppgnabDoorRows
import Derived.WalkKit
import Derived.ProofKit
import Derived.OpenShut
import Derived.ChangeOld
import Derived.Below
import Derived.LaidMore
import Derived.Lay
import Derived.Stop.Joined
import Derived.Lib.LaidTab
import Derived.MakeChecks
import Derived.SevenTiedAt
import Derived.Test.YtpfdelgflppgnabDoorCards
import Derived.Test.YtpfdelgflppgnabDoorTie
set_option linter.all false
namespace Go.Proofs.YtpfdelgflppgnabDoor.layoutBuildMatchesSpec
open Go Go.ChangeShapes Go.WideShapes Go.ChangeAt Go.RowKit Go.Vx
set_option linter.unusedVariables false
theorem op42 {l : List AV} (h : ZdR [.int .i64, .int .i64, .int .i64, .int .i64] l) : ∃ x : api_Part, Zei x ∧ l = [.int .i64 x.Frame, .int .i64 x.Word, .int .i64 x.Low, .int .i64 x.Bits] := by
  obtain ⟨h1, h2⟩ := h
  match l, h1 with
  | [a0, a1, a2, a3], _ =>
    obtain ⟨x0, w0, rfl⟩ := ZaL (show Fits (.int .i64) a0 from h2 0 (by simp))
    obtain ⟨x1, w1, rfl⟩ := ZaL (show Fits (.int .i64) a1 from h2 1 (by simp))
    obtain ⟨x2, w2, rfl⟩ := ZaL (show Fits (.int .i64) a2 from h2 2 (by simp))
    obtain ⟨x3, w3, rfl⟩ := ZaL (show Fits (.int .i64) a3 from h2 3 (by simp))
    exact ⟨(api_Part.mk x0 x1 x2 x3), ⟨w0, w1, w2, w3, trivial⟩, rfl⟩
theorem op9 {l : List AV} (h : ZdR [.str] l) : ∃ x : Str, wfS x ∧ l = [.str x] := by
  obtain ⟨h1, h2⟩ := h
  match l, h1 with
  | [a0], _ =>
    obtain ⟨x0, w0, rfl⟩ := ZkG (show Fits .str a0 from h2 0 (by simp))
    exact ⟨x0, w0, rfl⟩
theorem op46 {l : List AV} (h : ZdR [.str, .int .i64, .sl 42 [.int .i64, .int .i64, .int .i64, .int .i64], .int .i64, .int .i64, .int .i64, .int .i64, .sl 9 [.str]] l) : ∃ x : api_Param, Zbj x ∧ l = [.str x.Name, .int .i64 x.Kind, .sl 42 (List.map R42 x.Parts), .int .i64 x.First, .int .i64 x.Every, .int .i64 x.Times, .int .i64 x.Step, .sl 9 (List.map R9 x.Names)] := by
  obtain ⟨h1, h2⟩ := h
  match l, h1 with
  | [a0, a1, a2, a3, a4, a5, a6, a7], _ =>
    obtain ⟨x0, w0, rfl⟩ := ZkG (show Fits .str a0 from h2 0 (by simp))
    obtain ⟨x1, w1, rfl⟩ := ZaL (show Fits (.int .i64) a1 from h2 1 (by simp))
    obtain ⟨x2, w2, rfl⟩ := ZiL (f := R42) (p := Zei) (fun _ h => op42 h) (show Fits (.sl 42 [.int .i64, .int .i64, .int .i64, .int .i64]) a2 from h2 2 (by simp))
    obtain ⟨x3, w3, rfl⟩ := ZaL (show Fits (.int .i64) a3 from h2 3 (by simp))
    obtain ⟨x4, w4, rfl⟩ := ZaL (show Fits (.int .i64) a4 from h2 4 (by simp))
    obtain ⟨x5, w5, rfl⟩ := ZaL (show Fits (.int .i64) a5 from h2 5 (by simp))
    obtain ⟨x6, w6, rfl⟩ := ZaL (show Fits (.int .i64) a6 from h2 6 (by simp))
    obtain ⟨x7, w7, rfl⟩ := ZiL (f := R9) (p := wfS) (fun _ h => op9 h) (show Fits (.sl 9 [.str]) a7 from h2 7 (by simp))
    exact ⟨(api_Param.mk x0 x1 x2 x3 x4 x5 x6 x7), ⟨w0, w1, w2, w3, w4, w5, w6, w7, trivial⟩, rfl⟩
theorem op24 {l : List AV} (h : ZdR [.int .i64, .sl 46 [.str, .int .i64, .sl 42 [.int .i64, .int .i64, .int .i64, .int .i64], .int .i64, .int .i64, .int .i64, .int .i64, .sl 9 [.str]]] l) : ∃ x : api_Map, ZbS x ∧ l = [.int .i64 x.Version, .sl 46 (List.map R46 x.Params)] := by
  obtain ⟨h1, h2⟩ := h
  match l, h1 with
  | [a0, a1], _ =>
    obtain ⟨x0, w0, rfl⟩ := ZaL (show Fits (.int .i64) a0 from h2 0 (by simp))
    obtain ⟨x1, w1, rfl⟩ := ZiL (f := R46) (p := Zbj) (fun _ h => op46 h) (show Fits (.sl 46 [.str, .int .i64, .sl 42 [.int .i64, .int .i64, .int .i64, .int .i64], .int .i64, .int .i64, .int .i64, .int .i64, .sl 9 [.str]]) a1 from h2 1 (by simp))
    exact ⟨(api_Map.mk x0 x1), ⟨w0, w1, trivial⟩, rfl⟩
theorem op3 {l : List AV} (h : ZdR [.int .i64] l) : ∃ x : Int, (wfI .i64) x ∧ l = [.int .i64 x] := by
  obtain ⟨h1, h2⟩ := h
  match l, h1 with
  | [a0], _ =>
    obtain ⟨x0, w0, rfl⟩ := ZaL (show Fits (.int .i64) a0 from h2 0 (by simp))
    exact ⟨x0, w0, rfl⟩
theorem own : ownKnob Tryd.prog.godebug = Option.none := by kernel_rfl
theorem laidOut : laidOutB Tryd.prog = true := by kernel_rfl
theorem sh3 : ZhZ Tryd.prog 9 3 = some [.int .i64] := by kernel_rfl
theorem sh24 : ZhZ Tryd.prog 9 24 = some [.int .i64, .sl 46 [.str, .int .i64, .sl 42 [.int .i64, .int .i64, .int .i64, .int .i64], .int .i64, .int .i64, .int .i64, .int .i64, .sl 9 [.str]]] := by kernel_rfl
theorem sh25 : ZhZ Tryd.prog 9 25 = some [.sl 3 [.int .i64]] := by kernel_rfl
set_option maxRecDepth 100000 in
theorem door_met (os : Os) (args : Array Value) : laidMetH Tryd.prog Rows.layoutBuildMatchesSpecRow.laid ((World.laidAll Tryd.prog os Rows.layoutBuildMatchesSpecRow.laid).forCall (fun _ _ => 0) ⟨#[], args, []⟩).memory := by
  rw [MakeChecks.laidMetH_plain _ _ _ (by kernel_rfl)]; exact laidMet_laidAll _ (by kernel_rfl) (by kernel_rfl)
set_option maxRecDepth 100000 in
theorem glok {W : World} (h : laidMetH Tryd.prog Rows.layoutBuildMatchesSpecRow.laid W) : GlOK gl0 W No [] := by
  rw [MakeChecks.laidMetH_plain _ _ _ (by kernel_rfl)] at h
  obtain ⟨ps, ⟨g0, t0, cs0, f0, p0, q0, hg0, ht0, hv0, hd0, _, _⟩, _, _⟩ := h
  obtain rfl := Option.some.inj ((show Tryd.prog.globalNamed _ = some 0 by kernel_rfl).symm.trans hg0)
  obtain rfl := Option.some.inj ((show (Tryd.prog.globals[0]?).map (·.type) = some 90 by kernel_rfl).symm.trans ht0)
  have hc0 := Go.Lib.cells_of_tab (zs := gv_frame_syncs.toList) (k := .u16) Tryd.underlying90 Tryd.underlying26 (by kernel_rfl) (by kernel_rfl) hd0
  obtain ⟨e0, fr0, hh0⟩ := ZlW hg0 hv0
  have he0 : cs0 = (gv_frame_syncs.toList.map fun z => Value.int .u16 z).toArray := by rw [← hc0]
  rw [he0] at hh0
  refine ⟨by have := Znp hh0; show 1 ≤ _; omega, (fun b h => by cases h), fun p hp => ?_⟩
  have hp : p ∈ [(0, (gv_frame_syncs.toList.map fun z => Value.int .u16 z).toArray)] := hp
  rcases List.mem_cons.1 hp with rfl | hp
  · exact ⟨by show 0 < 1; omega, ⟨e0, fr0, hh0⟩, fun h => h.elim⟩
  cases hp
set_option maxRecDepth 100000 in
theorem lifted (os : Os) (started : os.Started) (H : Type) (enc : TypeId × Value → H) :
    ReturnsInHanded {} Tryd.checked os 3 .any (fun w args => (Rows.layoutBuildMatchesSpecSpec.pre enc Tryd.prog Tryd.f3 [] false w args ∧ laidMetH Tryd.prog Rows.layoutBuildMatchesSpecRow.laid w) ∧ sizedMet enc Tryd.prog Tryd.f3 (OpenSpec.ofChange Rows.layoutBuildMatchesSpecSpec) false w args) (Rows.layoutBuildMatchesSpecSpec.post enc Tryd.prog Tryd.f3 false true false false) := by
  refine returnsInHanded_of_change_and (C := Tryd.checked) (X := fun w _ => laidMetH Tryd.prog Rows.layoutBuildMatchesSpecRow.laid w) (fun _ _ _ hh h => h.of_heap hh) own started (by kernel_rfl) Tryd.func3
    (ChangeSpec.witness_shaped (enc := enc) (C := Tryd.checked) (os := os) (X := fun w _ => laidMetH Tryd.prog Rows.layoutBuildMatchesSpecRow.laid w) false (World.laidAll Tryd.prog os Rows.layoutBuildMatchesSpecRow.laid) #[.agg #[.int .i64 0, .slice none 0 0], .int .i64 0, .slice none 0 0] 8 (World.laidAll_os _ _ _) (World.shaped_of_ZipB (by kernel_rfl) (by kernel_rfl)) (by kernel_rfl) (by kernel_rfl) (by kernel_rfl) (door_met os _)) ?_
  intro W base args ds gs before hval0 hW hcnd hz hL _
  have hval : ∀ (j : Nat) t v, Tryd.f3.params[j]? = some t → args[j]? = some v → Value.okWide Tryd.prog W .any base t v := hval0
  have hW' := hW
  obtain ⟨p, q, hA0, hV, rfl, hfz, hnd⟩ := hW
  have hA : DataW.TrodAll enc Tryd.prog W 0 (fun _ => true) true Tryd.f3.params.toList args.toList ds p := hA0
  rw [Tryd.params3] at hA hval
  obtain ⟨v0, vs0, d0, ds0, p0, q0, hargs, rfl, rfl, h0, r0⟩ := trodAll_cons hA
  obtain ⟨v1, vs1, d1, ds1, p1, q1, rfl, rfl, rfl, h1, r1⟩ := trodAll_cons r0
  obtain ⟨v2, vs2, d2, ds2, p2, q2, rfl, rfl, rfl, h2, r2⟩ := trodAll_cons r1
  obtain ⟨rfl, rfl, rfl⟩ := trodAll_nil r2
  obtain rfl : args = #[v0, v1, v2] := by cases args; simp_all
  obtain ⟨rfl, rfl⟩ := trodVars_none hV
  have lt0 : ∀ x ∈ p0, x.block < W.heap.size := by obtain ⟨m, hm⟩ := h0; exact DataW.trod_lt m _ _ _ hm
  obtain ⟨l0, g0, e0⟩ := Zns 9 Tryd.underlying24 (hval 0 24 v0 rfl rfl) h0 sh24
  obtain ⟨x0, hx0, rfl⟩ := op24 g0
  have lt1 : ∀ x ∈ p1, x.block < W.heap.size := by obtain ⟨m, hm⟩ := h1; exact DataW.trod_lt m _ _ _ hm
  have c1 : v1.cells = #[v1] := by obtain ⟨_, rfl⟩ := okWide_int Tryd.underlying3 (hval 1 3 v1 rfl rfl); rfl
  obtain ⟨l1, g1, e1⟩ := ZkY 9 c1 h1 sh3
  obtain ⟨x1, hx1, rfl⟩ := ZaL (show Fits (.int .i64) l1 from g1)
  have lt2 : ∀ x ∈ p2, x.block < W.heap.size := by obtain ⟨m, hm⟩ := h2; exact DataW.trod_lt m _ _ _ hm
  have c2 : v2.cells = #[v2] := by obtain ⟨_, _, _, rfl⟩ := okWide_slice Tryd.underlying25 (hval 2 25 v2 rfl rfl); rfl
  obtain ⟨l2, g2, e2⟩ := ZkY 9 c2 h2 sh25
  obtain ⟨x2, hx2, rfl⟩ := ZiL (f := R3) (p := (wfI .i64)) (fun _ h => op3 h) (show Fits (.sl 3 [.int .i64]) l2 from g2)
  refine ((ZbX (r := true) (Zj7 x0 x1 x2 hx0)).spec No W #[v0, v1, v2] (fun _ h => h.elim) (glok hL) rfl (fun i hi => ?_)).mono fun e W' ⟨v, he, bel, hr⟩ => ?_
  · match i, hi with
    | 0, _ => exact e0
    | 1, _ => exact e1
    | 2, _ => exact e2
  · cases hr
    subst he
    exact ⟨_, rfl, _, _, _, [], _, [], hW', trodAll_mk1 (shut_bool Tryd.underlying4 _), (trodAll_cons_mk (Below.trod laidOut (by kernel_rfl) (of_decide_eq_true (by kernel_rfl)) h0 bel lt0) (trodAll_cons_mk (Below.trod laidOut (by kernel_rfl) (of_decide_eq_true (by kernel_rfl)) h1 bel lt1) (trodAll_cons_mk (Below.trod laidOut (by kernel_rfl) (of_decide_eq_true (by kernel_rfl)) h2 bel lt2) trodAll_mk0))), rfl, bel.frame _, fun h => by cases h⟩

theorem jInPlace : (Rows.layoutBuildMatchesSpecRow.inPlace == Tryd.prog.inPlace 3) = true := by kernel_rfl
theorem jUnfollowed : (Rows.layoutBuildMatchesSpecRow.unfollowed == Tryd.prog.unfollowed 3) = true := by kernel_rfl
theorem jRecurses : (Rows.layoutBuildMatchesSpecRow.recurses == Tryd.prog.recurses 3) = true := by kernel_rfl
theorem jNamed : (Rows.layoutBuildMatchesSpecRow.named == Tryd.prog.varsNamed 3) = true := by kernel_rfl
set_option maxRecDepth 100000 in
theorem joined : joinedFacts Tryd.prog 3 Tryd.f3 Rows.layoutBuildMatchesSpecSpec Rows.layoutBuildMatchesSpecRow = true := by
  unfold joinedFacts
  rw [jInPlace, jUnfollowed, jRecurses, jNamed]
  kernel_rfl
theorem over : Rows.layoutBuildMatchesSpecRow.holds Tryd.pinned (OpenSpec.ofChange Rows.layoutBuildMatchesSpecSpec) :=
  OpenClaim.holds_of_wide 3 Tryd.f3 rfl rfl rfl rfl rfl rfl rfl ⟨rfl, rfl, rfl, rfl, rfl⟩ rfl rfl rfl rfl rfl (by kernel_rfl) Tryd.func3 joined
    (of_decide_eq_true (by kernel_rfl)) (by unfold Func.isWrapper; first | (rw [if_pos (by decide +kernel)]; kernel_rfl) | (rw [if_neg (by decide +kernel)]; exact ⟨rfl, rfl⟩))
    (fun os started H enc _ => lifted os started H enc)
end Go.Proofs.YtpfdelgflppgnabDoor.layoutBuildMatchesSpec
