/- A text of the proof: a verified executor of the program form, or the contracts of the functions that the law reaches. -/
import Derived.Test.YtgohgnaapbpggaaGreatDoorOkG
import Derived.Test.YtgohgnaapbpggaaGreatDoorPD
import Derived.Test.YtgohgnaapbpggaaGreatDoorVG
import Derived.Test.YtgohgnaapbpggaaGreatDoorVO
import Derived.Test.YtgohgnaapbpggaaGreatDoorRows
import Derived.WalkKit
import Derived.ProofKit
import Derived.OpenShut
import Derived.ChangeOld
import Derived.Below
import Derived.LaidMore
import Derived.Lay
import Derived.Stop.Joined
import Derived.Lib.LaidTab
import Derived.MakeChecks
import Derived.SevenTiedAt
import Derived.Test.YtgohgnaapbpggaaGreatDoorCards
import Derived.Test.YtgohgnaapbpggaaGreatDoorTie
set_option linter.all false
namespace Go.Proofs.YtgohgnaapbpggaaGreatDoor.ringRecorderMatchesSpec
open Go Go.ChangeShapes Go.WideShapes Go.ChangeAt Go.RowKit Go.Vx
set_option linter.unusedVariables false
theorem op5 {l : List AV} (h : ZcJ [.int .u8] l) : ∃ x : Int, (wfI .u8) x ∧ l = [.int .u8 x] := by
  obtain ⟨h1, h2⟩ := h
  match l, h1 with
  | [a0], _ =>
    obtain ⟨x0, w0, rfl⟩ := Zgx (show Fits (.int .u8) a0 from h2 0 (by simp))
    exact ⟨x0, w0, rfl⟩
theorem op22 {l : List AV} (h : ZcJ [.sl 5 [.int .u8]] l) : ∃ x : List Int, (wfL (wfI .u8)) x ∧ l = [.sl 5 (List.map R5 x)] := by
  obtain ⟨h1, h2⟩ := h
  match l, h1 with
  | [a0], _ =>
    obtain ⟨x0, w0, rfl⟩ := Zjx (f := R5) (p := (wfI .u8)) (fun _ h => op5 h) (show Fits (.sl 5 [.int .u8]) a0 from h2 0 (by simp))
    exact ⟨x0, w0, rfl⟩
theorem op3 {l : List AV} (h : ZcJ [.int .i64] l) : ∃ x : Int, (wfI .i64) x ∧ l = [.int .i64 x] := by
  obtain ⟨h1, h2⟩ := h
  match l, h1 with
  | [a0], _ =>
    obtain ⟨x0, w0, rfl⟩ := Zgx (show Fits (.int .i64) a0 from h2 0 (by simp))
    exact ⟨x0, w0, rfl⟩
theorem op4 {l : List AV} (h : ZcJ [.bool] l) : ∃ x : Bool, wfT x ∧ l = [.bool x] := by
  obtain ⟨h1, h2⟩ := h
  match l, h1 with
  | [a0], _ =>
    obtain ⟨x0, w0, rfl⟩ := ZmD (show Fits .bool a0 from h2 0 (by simp))
    exact ⟨x0, w0, rfl⟩
theorem op59 {l : List AV} (h : ZcJ [.int .i64, .int .i64, .sl 22 [.sl 5 [.int .u8]], .sl 3 [.int .i64], .sl 4 [.bool]] l) : ∃ x : api_Memory, Zd5 x ∧ l = [.int .i64 x.Slots, .int .i64 x.Limit, .sl 22 (List.map R22 x.Sectors), .sl 3 (List.map R3 x.Wear), .sl 4 (List.map R4 x.Bad)] := by
  obtain ⟨h1, h2⟩ := h
  match l, h1 with
  | [a0, a1, a2, a3, a4], _ =>
    obtain ⟨x0, w0, rfl⟩ := Zgx (show Fits (.int .i64) a0 from h2 0 (by simp))
    obtain ⟨x1, w1, rfl⟩ := Zgx (show Fits (.int .i64) a1 from h2 1 (by simp))
    obtain ⟨x2, w2, rfl⟩ := Zjx (f := R22) (p := (wfL (wfI .u8))) (fun _ h => op22 h) (show Fits (.sl 22 [.sl 5 [.int .u8]]) a2 from h2 2 (by simp))
    obtain ⟨x3, w3, rfl⟩ := Zjx (f := R3) (p := (wfI .i64)) (fun _ h => op3 h) (show Fits (.sl 3 [.int .i64]) a3 from h2 3 (by simp))
    obtain ⟨x4, w4, rfl⟩ := Zjx (f := R4) (p := wfT) (fun _ h => op4 h) (show Fits (.sl 4 [.bool]) a4 from h2 4 (by simp))
    exact ⟨(api_Memory.mk x0 x1 x2 x3 x4), ⟨w0, w1, w2, w3, w4, trivial⟩, rfl⟩
theorem op48 {l : List AV} (h : ZcJ (.bool :: (List.replicate 64 (.int .u16) ++ (.int .i64 :: []))) l) : ∃ x : law3_Deed, Zgr x ∧ l = (.bool x.Freeze) :: ((List.map C44 x.Frame.toList) ++ ((.int .i64 x.Power) :: [])) := by
  obtain ⟨a0, l0, rfl, f0, h0⟩ := Zjf h
  obtain ⟨x0, w0, rfl⟩ := ZmD (show Fits .bool a0 from f0)
  obtain ⟨a1, l1, rfl, f1, h1⟩ := Zm5 h0
  obtain ⟨x1, w1, rfl⟩ := ZqP (f := fun z => AV.int .u16 z) (p := (wfI .u16)) (fun a ha => Zgx (show Fits (.int .u16) a from ha)) f1
  obtain ⟨a2, l2, rfl, f2, h2⟩ := Zjf h1
  obtain ⟨x2, w2, rfl⟩ := Zgx (show Fits (.int .i64) a2 from f2)
  obtain rfl := ZpS h2
  exact ⟨law3_Deed.mk x0 x1 x2, ⟨w0, w1, w2, trivial⟩, rfl⟩
theorem own : ownKnob Tryz.prog.godebug = Option.none := by kernel_rfl
theorem laidOut : laidOutB Tryz.prog = true := by kernel_rfl
theorem sh3 : Zl3 Tryz.prog 9 3 = some [.int .i64] := by kernel_rfl
theorem sh36 : Zl3 Tryz.prog 9 36 = some [.sl 59 [.int .i64, .int .i64, .sl 22 [.sl 5 [.int .u8]], .sl 3 [.int .i64], .sl 4 [.bool]]] := by kernel_rfl
theorem sh37 : Zl3 Tryz.prog 9 37 = some [.sl 48 (.bool :: (List.replicate 64 (.int .u16) ++ (.int .i64 :: [])))] := by kernel_rfl
set_option maxRecDepth 100000 in
theorem door_met (os : Os) (args : Array Value) : laidMetH Tryz.prog Rows.ringRecorderMatchesSpecRow.laid ((World.laidAll Tryz.prog os Rows.ringRecorderMatchesSpecRow.laid).forCall (fun _ _ => 0) ⟨#[], args, []⟩).memory := by
  rw [MakeChecks.laidMetH_plain _ _ _ (by kernel_rfl)]; exact laidMet_laidAll _ (by kernel_rfl) (by kernel_rfl)
set_option maxRecDepth 100000 in
theorem glok {W : World} (h : laidMetH Tryz.prog Rows.ringRecorderMatchesSpecRow.laid W) : GlOK gl0 W No [] := by
  rw [MakeChecks.laidMetH_plain _ _ _ (by kernel_rfl)] at h
  obtain ⟨ps, ⟨g0, t0, cs0, f0, p0, q0, hg0, ht0, hv0, hd0, _, _⟩, _, _⟩ := h
  obtain rfl := Option.some.inj ((show Tryz.prog.globalNamed _ = some 0 by kernel_rfl).symm.trans hg0)
  obtain rfl := Option.some.inj ((show (Tryz.prog.globals[0]?).map (·.type) = some 134 by kernel_rfl).symm.trans ht0)
  have hc0 := Go.Lib.cells_of_tab (zs := gv_frame_syncs.toList) (k := .u16) Tryz.underlying134 Tryz.underlying44 (by kernel_rfl) (by kernel_rfl) hd0
  obtain ⟨e0, fr0, hh0⟩ := ZpB hg0 hv0
  have he0 : cs0 = (gv_frame_syncs.toList.map fun z => Value.int .u16 z).toArray := by rw [← hc0]
  rw [he0] at hh0
  refine ⟨by have := ZqA hh0; show 1 ≤ _; omega, (fun b h => by cases h), fun p hp => ?_⟩
  have hp : p ∈ [(0, (gv_frame_syncs.toList.map fun z => Value.int .u16 z).toArray)] := hp
  rcases List.mem_cons.1 hp with rfl | hp
  · exact ⟨by show 0 < 1; omega, ⟨e0, fr0, hh0⟩, fun h => h.elim⟩
  cases hp
set_option maxRecDepth 100000 in
theorem lifted (os : Os) (started : os.Started) (H : Type) (enc : TypeId × Value → H) :
    ReturnsInHanded {} Tryz.checked os 4 .any (fun w args => (Rows.ringRecorderMatchesSpecSpec.pre enc Tryz.prog Tryz.f4 [] false w args ∧ laidMetH Tryz.prog Rows.ringRecorderMatchesSpecRow.laid w) ∧ sizedMet enc Tryz.prog Tryz.f4 (OpenSpec.ofChange Rows.ringRecorderMatchesSpecSpec) false w args) (Rows.ringRecorderMatchesSpecSpec.post enc Tryz.prog Tryz.f4 false true false false) := by
  refine returnsInHanded_of_change_and (C := Tryz.checked) (X := fun w _ => laidMetH Tryz.prog Rows.ringRecorderMatchesSpecRow.laid w) (fun _ _ _ hh h => h.of_heap hh) own started (by kernel_rfl) Tryz.func4
    (ChangeSpec.witness_shaped (enc := enc) (C := Tryz.checked) (os := os) (X := fun w _ => laidMetH Tryz.prog Rows.ringRecorderMatchesSpecRow.laid w) false (World.laidAll Tryz.prog os Rows.ringRecorderMatchesSpecRow.laid) #[.slice none 0 0, .int .i64 0, .slice none 0 0] 8 (World.laidAll_os _ _ _) (World.shaped_of_ZipB (by kernel_rfl) (by kernel_rfl)) (by kernel_rfl) (by kernel_rfl) (by kernel_rfl) (door_met os _)) ?_
  intro W base args ds gs before hval0 hW hcnd hz hL _
  have hval : ∀ (j : Nat) t v, Tryz.f4.params[j]? = some t → args[j]? = some v → Value.okWide Tryz.prog W .any base t v := hval0
  have hW' := hW
  obtain ⟨p, q, hA0, hV, rfl, hfz, hnd⟩ := hW
  have hA : DataW.TrodAll enc Tryz.prog W 0 (fun _ => true) true Tryz.f4.params.toList args.toList ds p := hA0
  rw [Tryz.params4] at hA hval
  obtain ⟨v0, vs0, d0, ds0, p0, q0, hargs, rfl, rfl, h0, r0⟩ := trodAll_cons hA
  obtain ⟨v1, vs1, d1, ds1, p1, q1, rfl, rfl, rfl, h1, r1⟩ := trodAll_cons r0
  obtain ⟨v2, vs2, d2, ds2, p2, q2, rfl, rfl, rfl, h2, r2⟩ := trodAll_cons r1
  obtain ⟨rfl, rfl, rfl⟩ := trodAll_nil r2
  obtain rfl : args = #[v0, v1, v2] := by cases args; simp_all
  obtain ⟨rfl, rfl⟩ := trodVars_none hV
  have lt0 : ∀ x ∈ p0, x.block < W.heap.size := by obtain ⟨m, hm⟩ := h0; exact DataW.trod_lt m _ _ _ hm
  have c0 : v0.cells = #[v0] := by obtain ⟨_, _, _, rfl⟩ := okWide_slice Tryz.underlying36 (hval 0 36 v0 rfl rfl); rfl
  obtain ⟨l0, g0, e0⟩ := ZlT 9 c0 h0 sh36
  obtain ⟨x0, hx0, rfl⟩ := Zjx (f := R59) (p := Zd5) (fun _ h => op59 h) (show Fits (.sl 59 [.int .i64, .int .i64, .sl 22 [.sl 5 [.int .u8]], .sl 3 [.int .i64], .sl 4 [.bool]]) l0 from g0)
  have lt1 : ∀ x ∈ p1, x.block < W.heap.size := by obtain ⟨m, hm⟩ := h1; exact DataW.trod_lt m _ _ _ hm
  have c1 : v1.cells = #[v1] := by obtain ⟨_, rfl⟩ := okWide_int Tryz.underlying3 (hval 1 3 v1 rfl rfl); rfl
  obtain ⟨l1, g1, e1⟩ := ZlT 9 c1 h1 sh3
  obtain ⟨x1, hx1, rfl⟩ := Zgx (show Fits (.int .i64) l1 from g1)
  have lt2 : ∀ x ∈ p2, x.block < W.heap.size := by obtain ⟨m, hm⟩ := h2; exact DataW.trod_lt m _ _ _ hm
  have c2 : v2.cells = #[v2] := by obtain ⟨_, _, _, rfl⟩ := okWide_slice Tryz.underlying37 (hval 2 37 v2 rfl rfl); rfl
  obtain ⟨l2, g2, e2⟩ := ZlT 9 c2 h2 sh37
  obtain ⟨x2, hx2, rfl⟩ := Zjx (f := R48) (p := Zgr) (fun _ h => op48 h) (show Fits (.sl 48 (.bool :: (List.replicate 64 (.int .u16) ++ (.int .i64 :: [])))) l2 from g2)
  refine ((Zdx (r := true) (Zlu x0 x1 x2 hx0 hx2)).spec No W #[v0, v1, v2] (fun _ h => h.elim) (glok hL) rfl (fun i hi => ?_)).mono fun e W' ⟨v, he, bel, hr⟩ => ?_
  · match i, hi with
    | 0, _ => exact e0
    | 1, _ => exact e1
    | 2, _ => exact e2
  · cases hr
    subst he
    exact ⟨_, rfl, _, _, _, [], _, [], hW', trodAll_mk1 (shut_bool Tryz.underlying4 _), (trodAll_cons_mk (Below.trod laidOut (by kernel_rfl) (of_decide_eq_true (by kernel_rfl)) h0 bel lt0) (trodAll_cons_mk (Below.trod laidOut (by kernel_rfl) (of_decide_eq_true (by kernel_rfl)) h1 bel lt1) (trodAll_cons_mk (Below.trod laidOut (by kernel_rfl) (of_decide_eq_true (by kernel_rfl)) h2 bel lt2) trodAll_mk0))), rfl, bel.frame _, fun h => by cases h⟩

theorem jInPlace : (Rows.ringRecorderMatchesSpecRow.inPlace == Tryz.prog.inPlace 4) = true := by kernel_rfl
theorem jUnfollowed : (Rows.ringRecorderMatchesSpecRow.unfollowed == Tryz.prog.unfollowed 4) = true := by kernel_rfl
theorem jRecurses : (Rows.ringRecorderMatchesSpecRow.recurses == Tryz.prog.recurses 4) = true := by kernel_rfl
theorem jNamed : (Rows.ringRecorderMatchesSpecRow.named == Tryz.prog.varsNamed 4) = true := by kernel_rfl
set_option maxRecDepth 100000 in
theorem joined : joinedFacts Tryz.prog 4 Tryz.f4 Rows.ringRecorderMatchesSpecSpec Rows.ringRecorderMatchesSpecRow = true := by
  unfold joinedFacts
  rw [jInPlace, jUnfollowed, jRecurses, jNamed]
  kernel_rfl
theorem over : Rows.ringRecorderMatchesSpecRow.holds Tryz.pinned (OpenSpec.ofChange Rows.ringRecorderMatchesSpecSpec) :=
  OpenClaim.holds_of_wide 4 Tryz.f4 rfl rfl rfl rfl rfl rfl rfl ⟨rfl, rfl, rfl, rfl, rfl⟩ rfl rfl rfl rfl rfl (by kernel_rfl) Tryz.func4 joined
    (of_decide_eq_true (by kernel_rfl)) (by unfold Func.isWrapper; first | (rw [if_pos (by decide +kernel)]; kernel_rfl) | (rw [if_neg (by decide +kernel)]; exact ⟨rfl, rfl⟩))
    (fun os started H enc _ => lifted os started H enc)
end Go.Proofs.YtgohgnaapbpggaaGreatDoor.ringRecorderMatchesSpec
