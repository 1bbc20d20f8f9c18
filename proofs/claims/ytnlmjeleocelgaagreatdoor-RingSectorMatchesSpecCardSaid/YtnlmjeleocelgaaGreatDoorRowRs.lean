/- A text of the proof: a verified executor of the program form, or the contracts of the functions that the law reaches. -/
import Derived.Test.YtnlmjeleocelgaaGreatDoorOkR
import Derived.Test.YtnlmjeleocelgaaGreatDoorPB
import Derived.Test.YtnlmjeleocelgaaGreatDoorVH
import Derived.Test.YtnlmjeleocelgaaGreatDoorVT
import Derived.Test.YtnlmjeleocelgaaGreatDoorRows
import Derived.WalkKit
import Derived.ProofKit
import Derived.OpenShut
import Derived.ChangeOld
import Derived.Below
import Derived.LaidMore
import Derived.Lay
import Derived.Stop.Joined
import Derived.Lib.LaidTab
import Derived.MakeChecks
import Derived.SevenTiedAt
import Derived.Test.YtnlmjeleocelgaaGreatDoorCards
import Derived.Test.YtnlmjeleocelgaaGreatDoorTie
set_option linter.all false
namespace Go.Proofs.YtnlmjeleocelgaaGreatDoor.ringSectorMatchesSpec
open Go Go.ChangeShapes Go.WideShapes Go.ChangeAt Go.RowKit Go.Vx
set_option linter.unusedVariables false
theorem op5 {l : List AV} (h : ZhH [.int .u8] l) : ∃ x : Int, (wfI .u8) x ∧ l = [.int .u8 x] := by
  obtain ⟨h1, h2⟩ := h
  match l, h1 with
  | [a0], _ =>
    obtain ⟨x0, w0, rfl⟩ := ZjT (show Fits (.int .u8) a0 from h2 0 (by simp))
    exact ⟨x0, w0, rfl⟩
theorem own : ownKnob Tryz.prog.godebug = Option.none := by kernel_rfl
theorem laidOut : laidOutB Tryz.prog = true := by kernel_rfl
theorem sh3 : Zjf Tryz.prog 9 3 = some [.int .i64] := by kernel_rfl
theorem sh49 : Zjf Tryz.prog 9 49 = some [.sl 5 [.int .u8]] := by kernel_rfl
set_option maxRecDepth 100000 in
theorem door_met (os : Os) (args : Array Value) : laidMetH Tryz.prog Rows.ringSectorMatchesSpecRow.laid ((World.laidAll Tryz.prog os Rows.ringSectorMatchesSpecRow.laid).forCall (fun _ _ => 0) ⟨#[], args, []⟩).memory := by
  rw [MakeChecks.laidMetH_plain _ _ _ (by kernel_rfl)]; exact laidMet_laidAll _ (by kernel_rfl) (by kernel_rfl)
set_option maxRecDepth 100000 in
theorem glok {W : World} (h : laidMetH Tryz.prog Rows.ringSectorMatchesSpecRow.laid W) : GlOK gl0 W No [] := by
  rw [MakeChecks.laidMetH_plain _ _ _ (by kernel_rfl)] at h
  obtain ⟨ps, ⟨g0, t0, cs0, f0, p0, q0, hg0, ht0, hv0, hd0, _, _⟩, _, _⟩ := h
  obtain rfl := Option.some.inj ((show Tryz.prog.globalNamed _ = some 0 by kernel_rfl).symm.trans hg0)
  obtain rfl := Option.some.inj ((show (Tryz.prog.globals[0]?).map (·.type) = some 150 by kernel_rfl).symm.trans ht0)
  have hc0 := Go.Lib.cells_of_tab (zs := gv_frame_syncs.toList) (k := .u16) Tryz.underlying150 Tryz.underlying40 (by kernel_rfl) (by kernel_rfl) hd0
  obtain ⟨e0, fr0, hh0⟩ := Zli hg0 hv0
  have he0 : cs0 = (gv_frame_syncs.toList.map fun z => Value.int .u16 z).toArray := by rw [← hc0]
  rw [he0] at hh0
  refine ⟨by have := ZlH hh0; show 1 ≤ _; omega, (fun b h => by cases h), fun p hp => ?_⟩
  have hp : p ∈ [(0, (gv_frame_syncs.toList.map fun z => Value.int .u16 z).toArray)] := hp
  rcases List.mem_cons.1 hp with rfl | hp
  · exact ⟨by show 0 < 1; omega, ⟨e0, fr0, hh0⟩, fun h => h.elim⟩
  cases hp
set_option maxRecDepth 100000 in
theorem lifted (os : Os) (started : os.Started) (H : Type) (enc : TypeId × Value → H) :
    ReturnsInHanded {} Tryz.checked os 7 .any (fun w args => (Rows.ringSectorMatchesSpecSpec.pre enc Tryz.prog Tryz.f7 [] false w args ∧ laidMetH Tryz.prog Rows.ringSectorMatchesSpecRow.laid w) ∧ sizedMet enc Tryz.prog Tryz.f7 (OpenSpec.ofChange Rows.ringSectorMatchesSpecSpec) false w args) (Rows.ringSectorMatchesSpecSpec.post enc Tryz.prog Tryz.f7 false true false false) := by
  refine returnsInHanded_of_change_and (C := Tryz.checked) (X := fun w _ => laidMetH Tryz.prog Rows.ringSectorMatchesSpecRow.laid w) (fun _ _ _ hh h => h.of_heap hh) own started (by kernel_rfl) Tryz.func7
    (ChangeSpec.witness_shaped (enc := enc) (C := Tryz.checked) (os := os) (X := fun w _ => laidMetH Tryz.prog Rows.ringSectorMatchesSpecRow.laid w) false (World.laidAll Tryz.prog os Rows.ringSectorMatchesSpecRow.laid) #[.slice none 0 0, .int .i64 0] 8 (World.laidAll_os _ _ _) (World.shaped_of_ZipB (by kernel_rfl) (by kernel_rfl)) (by kernel_rfl) (by kernel_rfl) (by kernel_rfl) (door_met os _)) ?_
  intro W base args ds gs before hval0 hW hcnd hz hL _
  have hval : ∀ (j : Nat) t v, Tryz.f7.params[j]? = some t → args[j]? = some v → Value.okWide Tryz.prog W .any base t v := hval0
  have hW' := hW
  obtain ⟨p, q, hA0, hV, rfl, hfz, hnd⟩ := hW
  have hA : DataW.TrodAll enc Tryz.prog W 0 (fun _ => true) true Tryz.f7.params.toList args.toList ds p := hA0
  rw [Tryz.params7] at hA hval
  obtain ⟨v0, vs0, d0, ds0, p0, q0, hargs, rfl, rfl, h0, r0⟩ := trodAll_cons hA
  obtain ⟨v1, vs1, d1, ds1, p1, q1, rfl, rfl, rfl, h1, r1⟩ := trodAll_cons r0
  obtain ⟨rfl, rfl, rfl⟩ := trodAll_nil r1
  obtain rfl : args = #[v0, v1] := by cases args; simp_all
  obtain ⟨rfl, rfl⟩ := trodVars_none hV
  have lt0 : ∀ x ∈ p0, x.block < W.heap.size := by obtain ⟨m, hm⟩ := h0; exact DataW.trod_lt m _ _ _ hm
  have c0 : v0.cells = #[v0] := by obtain ⟨_, _, _, rfl⟩ := okWide_slice Tryz.underlying49 (hval 0 49 v0 rfl rfl); rfl
  obtain ⟨l0, g0, e0⟩ := ZjO 9 c0 h0 sh49
  obtain ⟨x0, hx0, rfl⟩ := Zmr (f := R5) (p := (wfI .u8)) (fun _ h => op5 h) (show Fits (.sl 5 [.int .u8]) l0 from g0)
  have z0 : x0.length ≤ 140737488355328 := by have := ZmB Tryz.underlying49 c0 h0 e0 (fun _ _ hd => sized_slice hz (j := 0) (t := 49) (by kernel_rfl) (by rw [hd]; rfl) Tryz.underlying49) (by kernel_rfl); simpa using this
  have lt1 : ∀ x ∈ p1, x.block < W.heap.size := by obtain ⟨m, hm⟩ := h1; exact DataW.trod_lt m _ _ _ hm
  have c1 : v1.cells = #[v1] := by obtain ⟨_, rfl⟩ := okWide_int Tryz.underlying3 (hval 1 3 v1 rfl rfl); rfl
  obtain ⟨l1, g1, e1⟩ := ZjO 9 c1 h1 sh3
  obtain ⟨x1, hx1, rfl⟩ := ZjT (show Fits (.int .i64) l1 from g1)
  refine ((ZbR (r := true) (ZiS x0 x1 hx0 z0)).spec No W #[v0, v1] (fun _ h => h.elim) (glok hL) rfl (fun i hi => ?_)).mono fun e W' ⟨v, he, bel, hr⟩ => ?_
  · match i, hi with
    | 0, _ => exact e0
    | 1, _ => exact e1
  · cases hr
    subst he
    exact ⟨_, rfl, _, _, _, [], _, [], hW', trodAll_mk1 (shut_bool Tryz.underlying4 _), (trodAll_cons_mk (Below.trod laidOut (by kernel_rfl) (of_decide_eq_true (by kernel_rfl)) h0 bel lt0) (trodAll_cons_mk (Below.trod laidOut (by kernel_rfl) (of_decide_eq_true (by kernel_rfl)) h1 bel lt1) trodAll_mk0)), rfl, bel.frame _, fun h => by cases h⟩

theorem jInPlace : (Rows.ringSectorMatchesSpecRow.inPlace == Tryz.prog.inPlace 7) = true := by kernel_rfl
theorem jUnfollowed : (Rows.ringSectorMatchesSpecRow.unfollowed == Tryz.prog.unfollowed 7) = true := by kernel_rfl
theorem jRecurses : (Rows.ringSectorMatchesSpecRow.recurses == Tryz.prog.recurses 7) = true := by kernel_rfl
theorem jNamed : (Rows.ringSectorMatchesSpecRow.named == Tryz.prog.varsNamed 7) = true := by kernel_rfl
set_option maxRecDepth 100000 in
theorem joined : joinedFacts Tryz.prog 7 Tryz.f7 Rows.ringSectorMatchesSpecSpec Rows.ringSectorMatchesSpecRow = true := by
  unfold joinedFacts
  rw [jInPlace, jUnfollowed, jRecurses, jNamed]
  kernel_rfl
theorem over : Rows.ringSectorMatchesSpecRow.holds Tryz.pinned (OpenSpec.ofChange Rows.ringSectorMatchesSpecSpec) :=
  OpenClaim.holds_of_wide 7 Tryz.f7 rfl rfl rfl rfl rfl rfl rfl ⟨rfl, rfl, rfl, rfl, rfl⟩ rfl rfl rfl rfl rfl (by kernel_rfl) Tryz.func7 joined
    (of_decide_eq_true (by kernel_rfl)) (by unfold Func.isWrapper; first | (rw [if_pos (by decide +kernel)]; kernel_rfl) | (rw [if_neg (by decide +kernel)]; exact ⟨rfl, rfl⟩))
    (fun os started H enc _ => lifted os started H enc)
end Go.Proofs.YtnlmjeleocelgaaGreatDoor.ringSectorMatchesSpec
