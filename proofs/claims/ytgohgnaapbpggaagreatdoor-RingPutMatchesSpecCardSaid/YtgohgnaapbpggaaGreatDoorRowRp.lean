/- A text of the proof: a verified executor of the program form, or the contracts of the functions that the law reaches. -/
import Derived.Test.YtgohgnaapbpggaaGreatDoorOkR
import Derived.Test.YtgohgnaapbpggaaGreatDoorPA
import Derived.Test.YtgohgnaapbpggaaGreatDoorVH
import Derived.Test.YtgohgnaapbpggaaGreatDoorVP
import Derived.Test.YtgohgnaapbpggaaGreatDoorVX
import Derived.Test.YtgohgnaapbpggaaGreatDoorRows
import Derived.WalkKit
import Derived.ProofKit
import Derived.OpenShut
import Derived.ChangeOld
import Derived.Below
import Derived.LaidMore
import Derived.Lay
import Derived.Stop.Joined
import Derived.Lib.LaidTab
import Derived.MakeChecks
import Derived.SevenTiedAt
import Derived.Test.YtgohgnaapbpggaaGreatDoorCards
import Derived.Test.YtgohgnaapbpggaaGreatDoorTie
set_option linter.all false
namespace Go.Proofs.YtgohgnaapbpggaaGreatDoor.ringPutMatchesSpec
open Go Go.ChangeShapes Go.WideShapes Go.ChangeAt Go.RowKit Go.Vx
set_option linter.unusedVariables false
theorem op5 {l : List AV} (h : ZhP [.int .u8] l) : ∃ x : Int, (wfI .u8) x ∧ l = [.int .u8 x] := by
  obtain ⟨h1, h2⟩ := h
  match l, h1 with
  | [a0], _ =>
    obtain ⟨x0, w0, rfl⟩ := ZiI (show Fits (.int .u8) a0 from h2 0 (by simp))
    exact ⟨x0, w0, rfl⟩
theorem own : ownKnob Tryz.prog.godebug = Option.none := by kernel_rfl
theorem laidOut : laidOutB Tryz.prog = true := by kernel_rfl
theorem sh3 : Zi6 Tryz.prog 9 3 = some [.int .i64] := by kernel_rfl
theorem sh22 : Zi6 Tryz.prog 9 22 = some [.sl 5 [.int .u8]] := by kernel_rfl
set_option maxRecDepth 100000 in
theorem door_met (os : Os) (args : Array Value) : laidMetH Tryz.prog Rows.ringPutMatchesSpecRow.laid ((World.laidAll Tryz.prog os Rows.ringPutMatchesSpecRow.laid).forCall (fun _ _ => 0) ⟨#[], args, []⟩).memory := by
  rw [MakeChecks.laidMetH_plain _ _ _ (by kernel_rfl)]; exact laidMet_laidAll _ (by kernel_rfl) (by kernel_rfl)
set_option maxRecDepth 100000 in
theorem glok {W : World} (h : laidMetH Tryz.prog Rows.ringPutMatchesSpecRow.laid W) : GlOK gl0 W No [] := by
  rw [MakeChecks.laidMetH_plain _ _ _ (by kernel_rfl)] at h
  obtain ⟨ps, ⟨g0, t0, cs0, f0, p0, q0, hg0, ht0, hv0, hd0, _, _⟩, _, _⟩ := h
  obtain rfl := Option.some.inj ((show Tryz.prog.globalNamed _ = some 0 by kernel_rfl).symm.trans hg0)
  obtain rfl := Option.some.inj ((show (Tryz.prog.globals[0]?).map (·.type) = some 134 by kernel_rfl).symm.trans ht0)
  have hc0 := Go.Lib.cells_of_tab (zs := gv_frame_syncs.toList) (k := .u16) Tryz.underlying134 Tryz.underlying44 (by kernel_rfl) (by kernel_rfl) hd0
  obtain ⟨e0, fr0, hh0⟩ := Zk4 hg0 hv0
  have he0 : cs0 = (gv_frame_syncs.toList.map fun z => Value.int .u16 z).toArray := by rw [← hc0]
  rw [he0] at hh0
  refine ⟨by have := Zlj hh0; show 1 ≤ _; omega, (fun b h => by cases h), fun p hp => ?_⟩
  have hp : p ∈ [(0, (gv_frame_syncs.toList.map fun z => Value.int .u16 z).toArray)] := hp
  rcases List.mem_cons.1 hp with rfl | hp
  · exact ⟨by show 0 < 1; omega, ⟨e0, fr0, hh0⟩, fun h => h.elim⟩
  cases hp
set_option maxRecDepth 100000 in
theorem lifted (os : Os) (started : os.Started) (H : Type) (enc : TypeId × Value → H) :
    ReturnsInHanded {} Tryz.checked os 3 .any (fun w args => (Rows.ringPutMatchesSpecSpec.pre enc Tryz.prog Tryz.f3 [] false w args ∧ laidMetH Tryz.prog Rows.ringPutMatchesSpecRow.laid w) ∧ sizedMet enc Tryz.prog Tryz.f3 (OpenSpec.ofChange Rows.ringPutMatchesSpecSpec) false w args) (Rows.ringPutMatchesSpecSpec.post enc Tryz.prog Tryz.f3 false true false false) := by
  refine returnsInHanded_of_change_and (C := Tryz.checked) (X := fun w _ => laidMetH Tryz.prog Rows.ringPutMatchesSpecRow.laid w) (fun _ _ _ hh h => h.of_heap hh) own started (by kernel_rfl) Tryz.func3
    (ChangeSpec.witness_shaped (enc := enc) (C := Tryz.checked) (os := os) (X := fun w _ => laidMetH Tryz.prog Rows.ringPutMatchesSpecRow.laid w) false (World.laidAll Tryz.prog os Rows.ringPutMatchesSpecRow.laid) #[.slice none 0 0, .int .i64 0, .slice none 0 0, .int .i64 0] 8 (World.laidAll_os _ _ _) (World.shaped_of_ZipB (by kernel_rfl) (by kernel_rfl)) (by kernel_rfl) (by kernel_rfl) (by kernel_rfl) (door_met os _)) ?_
  intro W base args ds gs before hval0 hW hcnd hz hL _
  have hval : ∀ (j : Nat) t v, Tryz.f3.params[j]? = some t → args[j]? = some v → Value.okWide Tryz.prog W .any base t v := hval0
  have hW' := hW
  obtain ⟨p, q, hA0, hV, rfl, hfz, hnd⟩ := hW
  have hA : DataW.TrodAll enc Tryz.prog W 0 (fun _ => true) true Tryz.f3.params.toList args.toList ds p := hA0
  rw [Tryz.params3] at hA hval
  obtain ⟨v0, vs0, d0, ds0, p0, q0, hargs, rfl, rfl, h0, r0⟩ := trodAll_cons hA
  obtain ⟨v1, vs1, d1, ds1, p1, q1, rfl, rfl, rfl, h1, r1⟩ := trodAll_cons r0
  obtain ⟨v2, vs2, d2, ds2, p2, q2, rfl, rfl, rfl, h2, r2⟩ := trodAll_cons r1
  obtain ⟨v3, vs3, d3, ds3, p3, q3, rfl, rfl, rfl, h3, r3⟩ := trodAll_cons r2
  obtain ⟨rfl, rfl, rfl⟩ := trodAll_nil r3
  obtain rfl : args = #[v0, v1, v2, v3] := by cases args; simp_all
  obtain ⟨rfl, rfl⟩ := trodVars_none hV
  have lt0 : ∀ x ∈ p0, x.block < W.heap.size := by obtain ⟨m, hm⟩ := h0; exact DataW.trod_lt m _ _ _ hm
  have c0 : v0.cells = #[v0] := by obtain ⟨_, _, _, rfl⟩ := okWide_slice Tryz.underlying22 (hval 0 22 v0 rfl rfl); rfl
  obtain ⟨l0, g0, e0⟩ := Zhs 9 c0 h0 sh22
  obtain ⟨x0, hx0, rfl⟩ := ZkU (f := R5) (p := (wfI .u8)) (fun _ h => op5 h) (show Fits (.sl 5 [.int .u8]) l0 from g0)
  have z0 : x0.length ≤ 140737488355328 := by have := Zkv Tryz.underlying22 c0 h0 e0 (fun _ _ hd => sized_slice hz (j := 0) (t := 22) (by kernel_rfl) (by rw [hd]; rfl) Tryz.underlying22) (by kernel_rfl); simpa using this
  have lt1 : ∀ x ∈ p1, x.block < W.heap.size := by obtain ⟨m, hm⟩ := h1; exact DataW.trod_lt m _ _ _ hm
  have c1 : v1.cells = #[v1] := by obtain ⟨_, rfl⟩ := okWide_int Tryz.underlying3 (hval 1 3 v1 rfl rfl); rfl
  obtain ⟨l1, g1, e1⟩ := Zhs 9 c1 h1 sh3
  obtain ⟨x1, hx1, rfl⟩ := ZiI (show Fits (.int .i64) l1 from g1)
  have lt2 : ∀ x ∈ p2, x.block < W.heap.size := by obtain ⟨m, hm⟩ := h2; exact DataW.trod_lt m _ _ _ hm
  have c2 : v2.cells = #[v2] := by obtain ⟨_, _, _, rfl⟩ := okWide_slice Tryz.underlying22 (hval 2 22 v2 rfl rfl); rfl
  obtain ⟨l2, g2, e2⟩ := Zhs 9 c2 h2 sh22
  obtain ⟨x2, hx2, rfl⟩ := ZkU (f := R5) (p := (wfI .u8)) (fun _ h => op5 h) (show Fits (.sl 5 [.int .u8]) l2 from g2)
  have z2 : x2.length ≤ 140737488355328 := by have := Zkv Tryz.underlying22 c2 h2 e2 (fun _ _ hd => sized_slice hz (j := 2) (t := 22) (by kernel_rfl) (by rw [hd]; rfl) Tryz.underlying22) (by kernel_rfl); simpa using this
  have lt3 : ∀ x ∈ p3, x.block < W.heap.size := by obtain ⟨m, hm⟩ := h3; exact DataW.trod_lt m _ _ _ hm
  have c3 : v3.cells = #[v3] := by obtain ⟨_, rfl⟩ := okWide_int Tryz.underlying3 (hval 3 3 v3 rfl rfl); rfl
  obtain ⟨l3, g3, e3⟩ := Zhs 9 c3 h3 sh3
  obtain ⟨x3, hx3, rfl⟩ := ZiI (show Fits (.int .i64) l3 from g3)
  refine ((Zc0 (r := true) (Zkp x0 x1 x2 x3 z0 z2)).spec No W #[v0, v1, v2, v3] (fun _ h => h.elim) (glok hL) rfl (fun i hi => ?_)).mono fun e W' ⟨v, he, bel, hr⟩ => ?_
  · match i, hi with
    | 0, _ => exact e0
    | 1, _ => exact e1
    | 2, _ => exact e2
    | 3, _ => exact e3
  · cases hr
    subst he
    exact ⟨_, rfl, _, _, _, [], _, [], hW', trodAll_mk1 (shut_bool Tryz.underlying4 _), (trodAll_cons_mk (Below.trod laidOut (by kernel_rfl) (of_decide_eq_true (by kernel_rfl)) h0 bel lt0) (trodAll_cons_mk (Below.trod laidOut (by kernel_rfl) (of_decide_eq_true (by kernel_rfl)) h1 bel lt1) (trodAll_cons_mk (Below.trod laidOut (by kernel_rfl) (of_decide_eq_true (by kernel_rfl)) h2 bel lt2) (trodAll_cons_mk (Below.trod laidOut (by kernel_rfl) (of_decide_eq_true (by kernel_rfl)) h3 bel lt3) trodAll_mk0)))), rfl, bel.frame _, fun h => by cases h⟩

theorem jInPlace : (Rows.ringPutMatchesSpecRow.inPlace == Tryz.prog.inPlace 3) = true := by kernel_rfl
theorem jUnfollowed : (Rows.ringPutMatchesSpecRow.unfollowed == Tryz.prog.unfollowed 3) = true := by kernel_rfl
theorem jRecurses : (Rows.ringPutMatchesSpecRow.recurses == Tryz.prog.recurses 3) = true := by kernel_rfl
theorem jNamed : (Rows.ringPutMatchesSpecRow.named == Tryz.prog.varsNamed 3) = true := by kernel_rfl
set_option maxRecDepth 100000 in
theorem joined : joinedFacts Tryz.prog 3 Tryz.f3 Rows.ringPutMatchesSpecSpec Rows.ringPutMatchesSpecRow = true := by
  unfold joinedFacts
  rw [jInPlace, jUnfollowed, jRecurses, jNamed]
  kernel_rfl
theorem over : Rows.ringPutMatchesSpecRow.holds Tryz.pinned (OpenSpec.ofChange Rows.ringPutMatchesSpecSpec) :=
  OpenClaim.holds_of_wide 3 Tryz.f3 rfl rfl rfl rfl rfl rfl rfl ⟨rfl, rfl, rfl, rfl, rfl⟩ rfl rfl rfl rfl rfl (by kernel_rfl) Tryz.func3 joined
    (of_decide_eq_true (by kernel_rfl)) (by unfold Func.isWrapper; first | (rw [if_pos (by decide +kernel)]; kernel_rfl) | (rw [if_neg (by decide +kernel)]; exact ⟨rfl, rfl⟩))
    (fun os started H enc _ => lifted os started H enc)
end Go.Proofs.YtgohgnaapbpggaaGreatDoor.ringPutMatchesSpec
