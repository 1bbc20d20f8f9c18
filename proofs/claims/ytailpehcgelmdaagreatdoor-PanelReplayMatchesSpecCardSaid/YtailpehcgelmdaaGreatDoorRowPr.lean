/- A text of the proof: a verified executor of the program form, or the contracts of the functions that the law reaches. -/
import Derived.Test.YtailpehcgelmdaaGreatDoorOkP
import Derived.Test.YtailpehcgelmdaaGreatDoorPC
import Derived.Test.YtailpehcgelmdaaGreatDoorVG
import Derived.Test.YtailpehcgelmdaaGreatDoorVO
import Derived.Test.YtailpehcgelmdaaGreatDoorRows
import Derived.WalkKit
import Derived.ProofKit
import Derived.OpenShut
import Derived.ChangeOld
import Derived.Below
import Derived.LaidMore
import Derived.Lay
import Derived.Stop.Joined
import Derived.Lib.LaidTab
import Derived.MakeChecks
import Derived.SevenTiedAt
import Derived.Test.YtailpehcgelmdaaGreatDoorCards
import Derived.Test.YtailpehcgelmdaaGreatDoorTie
set_option linter.all false
namespace Go.Proofs.YtailpehcgelmdaaGreatDoor.panelReplayMatchesSpec
open Go Go.ChangeShapes Go.WideShapes Go.ChangeAt Go.RowKit Go.Vx
set_option linter.unusedVariables false
theorem op136 {l : List AV} (h : ZfD [.int .i64, .int .i64, .str] l) : ∃ x : api_Zone, ZgU x ∧ l = [.int .i64 x.From, .int .i64 x.To, .str x.Name] := by
  obtain ⟨h1, h2⟩ := h
  match l, h1 with
  | [a0, a1, a2], _ =>
    obtain ⟨x0, w0, rfl⟩ := JX (show Fits (.int .i64) a0 from h2 0 (by simp))
    obtain ⟨x1, w1, rfl⟩ := JX (show Fits (.int .i64) a1 from h2 1 (by simp))
    obtain ⟨x2, w2, rfl⟩ := Zix (show Fits .str a2 from h2 2 (by simp))
    exact ⟨(api_Zone.mk x0 x1 x2), ⟨w0, w1, w2, trivial⟩, rfl⟩
theorem op49 {l : List AV} (h : ZfD [.int .i64, .str, .str, .int .i64, .int .i64, .int .i64, .int .i64, .sl 136 [.int .i64, .int .i64, .str], .int .i64, .int .i64, .bool, .int .i64] l) : ∃ x : api_Instrument, Zdc x ∧ l = [.int .i64 x.Kind, .str x.Name, .str x.Track, .int .i64 x.Places, .int .i64 x.Low, .int .i64 x.High, .int .i64 x.Steps, .sl 136 (List.map R136 x.Zones), .int .i64 x.Op, .int .i64 x.N, .bool x.Latch, .int .i64 x.Size] := by
  obtain ⟨h1, h2⟩ := h
  match l, h1 with
  | [a0, a1, a2, a3, a4, a5, a6, a7, a8, a9, a10, a11], _ =>
    obtain ⟨x0, w0, rfl⟩ := JX (show Fits (.int .i64) a0 from h2 0 (by simp))
    obtain ⟨x1, w1, rfl⟩ := Zix (show Fits .str a1 from h2 1 (by simp))
    obtain ⟨x2, w2, rfl⟩ := Zix (show Fits .str a2 from h2 2 (by simp))
    obtain ⟨x3, w3, rfl⟩ := JX (show Fits (.int .i64) a3 from h2 3 (by simp))
    obtain ⟨x4, w4, rfl⟩ := JX (show Fits (.int .i64) a4 from h2 4 (by simp))
    obtain ⟨x5, w5, rfl⟩ := JX (show Fits (.int .i64) a5 from h2 5 (by simp))
    obtain ⟨x6, w6, rfl⟩ := JX (show Fits (.int .i64) a6 from h2 6 (by simp))
    obtain ⟨x7, w7, rfl⟩ := Zkc (f := R136) (p := ZgU) (fun _ h => op136 h) (show Fits (.sl 136 [.int .i64, .int .i64, .str]) a7 from h2 7 (by simp))
    obtain ⟨x8, w8, rfl⟩ := JX (show Fits (.int .i64) a8 from h2 8 (by simp))
    obtain ⟨x9, w9, rfl⟩ := JX (show Fits (.int .i64) a9 from h2 9 (by simp))
    obtain ⟨x10, w10, rfl⟩ := ZnH (show Fits .bool a10 from h2 10 (by simp))
    obtain ⟨x11, w11, rfl⟩ := JX (show Fits (.int .i64) a11 from h2 11 (by simp))
    exact ⟨(api_Instrument.mk x0 x1 x2 x3 x4 x5 x6 x7 x8 x9 x10 x11), ⟨w0, w1, w2, w3, w4, w5, w6, w7, w8, w9, w10, w11, trivial⟩, rfl⟩
theorem op24 {l : List AV} (h : ZfD [.sl 49 [.int .i64, .str, .str, .int .i64, .int .i64, .int .i64, .int .i64, .sl 136 [.int .i64, .int .i64, .str], .int .i64, .int .i64, .bool, .int .i64]] l) : ∃ x : api_Panel, Zim x ∧ l = [.sl 49 (List.map R49 x.Instruments)] := by
  obtain ⟨h1, h2⟩ := h
  match l, h1 with
  | [a0], _ =>
    obtain ⟨x0, w0, rfl⟩ := Zkc (f := R49) (p := Zdc) (fun _ h => op49 h) (show Fits (.sl 49 [.int .i64, .str, .str, .int .i64, .int .i64, .int .i64, .int .i64, .sl 136 [.int .i64, .int .i64, .str], .int .i64, .int .i64, .bool, .int .i64]) a0 from h2 0 (by simp))
    exact ⟨(api_Panel.mk x0), ⟨w0, trivial⟩, rfl⟩
theorem op56 {l : List AV} (h : ZfD [.int .i64, .int .i64, .int .i64] l) : ∃ x : api_Sample, Zfa x ∧ l = [.int .i64 x.At, .int .i64 x.N, .int .i64 x.Mark] := by
  obtain ⟨h1, h2⟩ := h
  match l, h1 with
  | [a0, a1, a2], _ =>
    obtain ⟨x0, w0, rfl⟩ := JX (show Fits (.int .i64) a0 from h2 0 (by simp))
    obtain ⟨x1, w1, rfl⟩ := JX (show Fits (.int .i64) a1 from h2 1 (by simp))
    obtain ⟨x2, w2, rfl⟩ := JX (show Fits (.int .i64) a2 from h2 2 (by simp))
    exact ⟨(api_Sample.mk x0 x1 x2), ⟨w0, w1, w2, trivial⟩, rfl⟩
theorem op54 {l : List AV} (h : ZfD [.str, .int .i64, .sl 56 [.int .i64, .int .i64, .int .i64], .int .i64] l) : ∃ x : api_Track, Zf6 x ∧ l = [.str x.Name, .int .i64 x.Series.Den, .sl 56 (List.map R56 x.Series.Samples), .int .i64 x.Long] := by
  obtain ⟨h1, h2⟩ := h
  match l, h1 with
  | [a0, a1, a2, a3], _ =>
    obtain ⟨x0, w0, rfl⟩ := Zix (show Fits .str a0 from h2 0 (by simp))
    obtain ⟨x1, w1, rfl⟩ := JX (show Fits (.int .i64) a1 from h2 1 (by simp))
    obtain ⟨x2, w2, rfl⟩ := Zkc (f := R56) (p := Zfa) (fun _ h => op56 h) (show Fits (.sl 56 [.int .i64, .int .i64, .int .i64]) a2 from h2 2 (by simp))
    obtain ⟨x3, w3, rfl⟩ := JX (show Fits (.int .i64) a3 from h2 3 (by simp))
    exact ⟨(api_Track.mk x0 (api_Series.mk x1 x2) x3), ⟨w0, ⟨w1, w2, trivial⟩, w3, trivial⟩, rfl⟩
theorem op72 {l : List AV} (h : ZfD [.int .i64, .int .i64, .str] l) : ∃ x : law8_Deed, Zgc x ∧ l = [.int .i64 x.Op, .int .i64 x.N, .str x.Text] := by
  obtain ⟨h1, h2⟩ := h
  match l, h1 with
  | [a0, a1, a2], _ =>
    obtain ⟨x0, w0, rfl⟩ := JX (show Fits (.int .i64) a0 from h2 0 (by simp))
    obtain ⟨x1, w1, rfl⟩ := JX (show Fits (.int .i64) a1 from h2 1 (by simp))
    obtain ⟨x2, w2, rfl⟩ := Zix (show Fits .str a2 from h2 2 (by simp))
    exact ⟨(law8_Deed.mk x0 x1 x2), ⟨w0, w1, w2, trivial⟩, rfl⟩
theorem own : ownKnob Tryz.prog.godebug = Option.none := by kernel_rfl
theorem laidOut : laidOutB Tryz.prog = true := by kernel_rfl
theorem sh3 : Zky Tryz.prog 9 3 = some [.int .i64] := by kernel_rfl
theorem sh24 : Zky Tryz.prog 9 24 = some [.sl 49 [.int .i64, .str, .str, .int .i64, .int .i64, .int .i64, .int .i64, .sl 136 [.int .i64, .int .i64, .str], .int .i64, .int .i64, .bool, .int .i64]] := by kernel_rfl
theorem sh25 : Zky Tryz.prog 9 25 = some [.sl 54 [.str, .int .i64, .sl 56 [.int .i64, .int .i64, .int .i64], .int .i64]] := by kernel_rfl
theorem sh67 : Zky Tryz.prog 9 67 = some [.sl 72 [.int .i64, .int .i64, .str]] := by kernel_rfl
set_option maxRecDepth 100000 in
theorem door_met (os : Os) (args : Array Value) : laidMetH Tryz.prog Rows.panelReplayMatchesSpecRow.laid ((World.laidAll Tryz.prog os Rows.panelReplayMatchesSpecRow.laid).forCall (fun _ _ => 0) ⟨#[], args, []⟩).memory := by
  rw [MakeChecks.laidMetH_plain _ _ _ (by kernel_rfl)]; exact laidMet_laidAll _ (by kernel_rfl) (by kernel_rfl)
set_option maxRecDepth 100000 in
theorem glok {W : World} (h : laidMetH Tryz.prog Rows.panelReplayMatchesSpecRow.laid W) : GlOK gl0 W No [] := by
  rw [MakeChecks.laidMetH_plain _ _ _ (by kernel_rfl)] at h
  obtain ⟨ps, ⟨g0, t0, cs0, f0, p0, q0, hg0, ht0, hv0, hd0, ⟨g1, t1, cs1, f1, p1, q1, hg1, ht1, hv1, hd1, ⟨g2, t2, cs2, f2, p2, q2, hg2, ht2, hv2, hd2, ⟨g3, t3, cs3, f3, p3, q3, hg3, ht3, hv3, hd3, ⟨g4, t4, cs4, f4, p4, q4, hg4, ht4, hv4, hd4, _, _⟩, _⟩, _⟩, _⟩, _⟩, _, _⟩ := h
  obtain rfl := Option.some.inj ((show Tryz.prog.globalNamed _ = some 1 by kernel_rfl).symm.trans hg2)
  obtain rfl := Option.some.inj ((show (Tryz.prog.globals[1]?).map (·.type) = some 214 by kernel_rfl).symm.trans ht2)
  have hc1 := Go.Lib.cells_of_tab (zs := Go.Lib.pow10Tab) (k := .u64) Tryz.underlying214 Tryz.underlying194 (by kernel_rfl) (by kernel_rfl) hd2
  obtain ⟨e1, fr1, hh1⟩ := Zoz hg2 hv2
  have he1 : cs2 = (Go.Lib.pow10Tab.map fun z => Value.int .u64 z).toArray := by rw [← hc1]
  rw [he1] at hh1
  refine ⟨by have := ZoS hh1; show 2 ≤ _; omega, (fun b h => by cases h), fun p hp => ?_⟩
  have hp : p ∈ [(1, (Go.Lib.pow10Tab.map fun z => Value.int .u64 z).toArray)] := hp
  rcases List.mem_cons.1 hp with rfl | hp
  · exact ⟨by show 1 < 2; omega, ⟨e1, fr1, hh1⟩, fun h => h.elim⟩
  cases hp
set_option maxRecDepth 100000 in
theorem lifted (os : Os) (started : os.Started) (H : Type) (enc : TypeId × Value → H) :
    ReturnsInHanded {} Tryz.checked os 6 .any (fun w args => (Rows.panelReplayMatchesSpecSpec.pre enc Tryz.prog Tryz.f6 [] false w args ∧ laidMetH Tryz.prog Rows.panelReplayMatchesSpecRow.laid w) ∧ sizedMet enc Tryz.prog Tryz.f6 (OpenSpec.ofChange Rows.panelReplayMatchesSpecSpec) false w args) (Rows.panelReplayMatchesSpecSpec.post enc Tryz.prog Tryz.f6 false true false false) := by
  refine returnsInHanded_of_change_and (C := Tryz.checked) (X := fun w _ => laidMetH Tryz.prog Rows.panelReplayMatchesSpecRow.laid w) (fun _ _ _ hh h => h.of_heap hh) own started (by kernel_rfl) Tryz.func6
    (ChangeSpec.witness_shaped (enc := enc) (C := Tryz.checked) (os := os) (X := fun w _ => laidMetH Tryz.prog Rows.panelReplayMatchesSpecRow.laid w) false (World.laidAll Tryz.prog os Rows.panelReplayMatchesSpecRow.laid) #[.agg #[.slice none 0 0], .slice none 0 0, .int .i64 0, .slice none 0 0] 8 (World.laidAll_os _ _ _) (World.shaped_of_ZipB (by kernel_rfl) (by kernel_rfl)) (by kernel_rfl) (by kernel_rfl) (by kernel_rfl) (door_met os _)) ?_
  intro W base args ds gs before hval0 hW hcnd hz hL _
  have hval : ∀ (j : Nat) t v, Tryz.f6.params[j]? = some t → args[j]? = some v → Value.okWide Tryz.prog W .any base t v := hval0
  have hW' := hW
  obtain ⟨p, q, hA0, hV, rfl, hfz, hnd⟩ := hW
  have hA : DataW.TrodAll enc Tryz.prog W 0 (fun _ => true) true Tryz.f6.params.toList args.toList ds p := hA0
  rw [Tryz.params6] at hA hval
  obtain ⟨v0, vs0, d0, ds0, p0, q0, hargs, rfl, rfl, h0, r0⟩ := trodAll_cons hA
  obtain ⟨v1, vs1, d1, ds1, p1, q1, rfl, rfl, rfl, h1, r1⟩ := trodAll_cons r0
  obtain ⟨v2, vs2, d2, ds2, p2, q2, rfl, rfl, rfl, h2, r2⟩ := trodAll_cons r1
  obtain ⟨v3, vs3, d3, ds3, p3, q3, rfl, rfl, rfl, h3, r3⟩ := trodAll_cons r2
  obtain ⟨rfl, rfl, rfl⟩ := trodAll_nil r3
  obtain rfl : args = #[v0, v1, v2, v3] := by cases args; simp_all
  obtain ⟨rfl, rfl⟩ := trodVars_none hV
  have lt0 : ∀ x ∈ p0, x.block < W.heap.size := by obtain ⟨m, hm⟩ := h0; exact DataW.trod_lt m _ _ _ hm
  obtain ⟨l0, g0, e0⟩ := Zo7 9 Tryz.underlying24 (hval 0 24 v0 rfl rfl) h0 sh24
  obtain ⟨x0, hx0, rfl⟩ := op24 g0
  have lt1 : ∀ x ∈ p1, x.block < W.heap.size := by obtain ⟨m, hm⟩ := h1; exact DataW.trod_lt m _ _ _ hm
  have c1 : v1.cells = #[v1] := by obtain ⟨_, _, _, rfl⟩ := okWide_slice Tryz.underlying25 (hval 1 25 v1 rfl rfl); rfl
  obtain ⟨l1, g1, e1⟩ := Zly 9 c1 h1 sh25
  obtain ⟨x1, hx1, rfl⟩ := Zkc (f := R54) (p := Zf6) (fun _ h => op54 h) (show Fits (.sl 54 [.str, .int .i64, .sl 56 [.int .i64, .int .i64, .int .i64], .int .i64]) l1 from g1)
  have lt2 : ∀ x ∈ p2, x.block < W.heap.size := by obtain ⟨m, hm⟩ := h2; exact DataW.trod_lt m _ _ _ hm
  have c2 : v2.cells = #[v2] := by obtain ⟨_, rfl⟩ := okWide_int Tryz.underlying3 (hval 2 3 v2 rfl rfl); rfl
  obtain ⟨l2, g2, e2⟩ := Zly 9 c2 h2 sh3
  obtain ⟨x2, hx2, rfl⟩ := JX (show Fits (.int .i64) l2 from g2)
  have lt3 : ∀ x ∈ p3, x.block < W.heap.size := by obtain ⟨m, hm⟩ := h3; exact DataW.trod_lt m _ _ _ hm
  have c3 : v3.cells = #[v3] := by obtain ⟨_, _, _, rfl⟩ := okWide_slice Tryz.underlying67 (hval 3 67 v3 rfl rfl); rfl
  obtain ⟨l3, g3, e3⟩ := Zly 9 c3 h3 sh67
  obtain ⟨x3, hx3, rfl⟩ := Zkc (f := R72) (p := Zgc) (fun _ h => op72 h) (show Fits (.sl 72 [.int .i64, .int .i64, .str]) l3 from g3)
  refine ((Zdj (r := true) (Zmf x0 x1 x2 x3 hx0 hx1 hx3)).spec No W #[v0, v1, v2, v3] (fun _ h => h.elim) (glok hL) rfl (fun i hi => ?_)).mono fun e W' ⟨v, he, bel, hr⟩ => ?_
  · match i, hi with
    | 0, _ => exact e0
    | 1, _ => exact e1
    | 2, _ => exact e2
    | 3, _ => exact e3
  · cases hr
    subst he
    exact ⟨_, rfl, _, _, _, [], _, [], hW', trodAll_mk1 (shut_bool Tryz.underlying4 _), (trodAll_cons_mk (Below.trod laidOut (by kernel_rfl) (of_decide_eq_true (by kernel_rfl)) h0 bel lt0) (trodAll_cons_mk (Below.trod laidOut (by kernel_rfl) (of_decide_eq_true (by kernel_rfl)) h1 bel lt1) (trodAll_cons_mk (Below.trod laidOut (by kernel_rfl) (of_decide_eq_true (by kernel_rfl)) h2 bel lt2) (trodAll_cons_mk (Below.trod laidOut (by kernel_rfl) (of_decide_eq_true (by kernel_rfl)) h3 bel lt3) trodAll_mk0)))), rfl, bel.frame _, fun h => by cases h⟩

theorem jInPlace : (Rows.panelReplayMatchesSpecRow.inPlace == Tryz.prog.inPlace 6) = true := by kernel_rfl
theorem jUnfollowed : (Rows.panelReplayMatchesSpecRow.unfollowed == Tryz.prog.unfollowed 6) = true := by kernel_rfl
theorem jRecurses : (Rows.panelReplayMatchesSpecRow.recurses == Tryz.prog.recurses 6) = true := by kernel_rfl
theorem jNamed : (Rows.panelReplayMatchesSpecRow.named == Tryz.prog.varsNamed 6) = true := by kernel_rfl
set_option maxRecDepth 100000 in
theorem joined : joinedFacts Tryz.prog 6 Tryz.f6 Rows.panelReplayMatchesSpecSpec Rows.panelReplayMatchesSpecRow = true := by
  unfold joinedFacts
  rw [jInPlace, jUnfollowed, jRecurses, jNamed]
  kernel_rfl
theorem over : Rows.panelReplayMatchesSpecRow.holds Tryz.pinned (OpenSpec.ofChange Rows.panelReplayMatchesSpecSpec) :=
  OpenClaim.holds_of_wide 6 Tryz.f6 rfl rfl rfl rfl rfl rfl rfl ⟨rfl, rfl, rfl, rfl, rfl⟩ rfl rfl rfl rfl rfl (by kernel_rfl) Tryz.func6 joined
    (of_decide_eq_true (by kernel_rfl)) (by unfold Func.isWrapper; first | (rw [if_pos (by decide +kernel)]; kernel_rfl) | (rw [if_neg (by decide +kernel)]; exact ⟨rfl, rfl⟩))
    (fun os started H enc _ => lifted os started H enc)
end Go.Proofs.YtailpehcgelmdaaGreatDoor.panelReplayMatchesSpec
