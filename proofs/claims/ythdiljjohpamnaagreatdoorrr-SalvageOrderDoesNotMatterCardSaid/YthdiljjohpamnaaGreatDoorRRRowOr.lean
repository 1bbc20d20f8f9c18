/- A text of the proof: a verified executor of the program form, or the contracts of the functions that the law reaches. -/
import Derived.Test.YthdiljjohpamnaaGreatDoorRROkZ
import Derived.Test.YthdiljjohpamnaaGreatDoorRRPD
import Derived.Test.YthdiljjohpamnaaGreatDoorRRVH
import Derived.Test.YthdiljjohpamnaaGreatDoorRRVP
import Derived.Test.YthdiljjohpamnaaGreatDoorRRRows
import Derived.WalkKit
import Derived.ProofKit
import Derived.OpenShut
import Derived.ChangeOld
import Derived.Below
import Derived.LaidMore
import Derived.Lay
import Derived.Stop.Joined
import Derived.Lib.LaidTab
import Derived.MakeChecks
import Derived.SevenTiedAt
import Derived.Test.YthdiljjohpamnaaGreatDoorRRCards
import Derived.Test.YthdiljjohpamnaaGreatDoorRRTie
set_option linter.all false
namespace Go.Proofs.YthdiljjohpamnaaGreatDoorRR.salvageOrderDoesNotMatter
open Go Go.ChangeShapes Go.WideShapes Go.ChangeAt Go.RowKit Go.Vx
set_option linter.unusedVariables false
theorem op5 {l : List AV} (h : Zjh [.int .u8] l) : ∃ x : Int, (wfI .u8) x ∧ l = [.int .u8 x] := by
  obtain ⟨h1, h2⟩ := h
  match l, h1 with
  | [a0], _ =>
    obtain ⟨x0, w0, rfl⟩ := Zqi (show Fits (.int .u8) a0 from h2 0 (by simp))
    exact ⟨x0, w0, rfl⟩
theorem op68 {l : List AV} (h : Zjh [.sl 5 [.int .u8], .bool] l) : ∃ x : api_Piece, XV x ∧ l = [.sl 5 (List.map R5 x.Bytes), .bool x.Half] := by
  obtain ⟨h1, h2⟩ := h
  match l, h1 with
  | [a0, a1], _ =>
    obtain ⟨x0, w0, rfl⟩ := Zo8 (f := R5) (p := (wfI .u8)) (fun _ h => op5 h) (show Fits (.sl 5 [.int .u8]) a0 from h2 0 (by simp))
    obtain ⟨x1, w1, rfl⟩ := Zod (show Fits .bool a1 from h2 1 (by simp))
    exact ⟨(api_Piece.mk x0 x1), ⟨w0, w1, trivial⟩, rfl⟩
theorem own : ownKnob Tryz.prog.godebug = Option.none := by kernel_rfl
theorem laidOut : laidOutB Tryz.prog = true := by kernel_rfl
theorem sh76 : ZmP Tryz.prog 9 76 = some [.sl 68 [.sl 5 [.int .u8], .bool]] := by kernel_rfl
set_option maxRecDepth 100000 in
theorem door_met (os : Os) (args : Array Value) : laidMetH Tryz.prog Rows.salvageOrderDoesNotMatterRow.laid ((World.laidAll Tryz.prog os Rows.salvageOrderDoesNotMatterRow.laid).forCall (fun _ _ => 0) ⟨#[], args, []⟩).memory := by
  rw [MakeChecks.laidMetH_plain _ _ _ (by kernel_rfl)]; exact laidMet_laidAll _ (by kernel_rfl) (by kernel_rfl)
set_option maxRecDepth 100000 in
theorem glok {W : World} (h : laidMetH Tryz.prog Rows.salvageOrderDoesNotMatterRow.laid W) : GlOK gl0 W No [] := by
  rw [MakeChecks.laidMetH_plain _ _ _ (by kernel_rfl)] at h
  obtain ⟨ps, ⟨g0, t0, cs0, f0, p0, q0, hg0, ht0, hv0, hd0, _, _⟩, _, _⟩ := h
  obtain rfl := Option.some.inj ((show Tryz.prog.globalNamed _ = some 0 by kernel_rfl).symm.trans hg0)
  obtain rfl := Option.some.inj ((show (Tryz.prog.globals[0]?).map (·.type) = some 187 by kernel_rfl).symm.trans ht0)
  have hc0 := Go.Lib.cells_of_tab (zs := gv_frame_syncs.toList) (k := .u16) Tryz.underlying187 Tryz.underlying47 (by kernel_rfl) (by kernel_rfl) hd0
  obtain ⟨e0, fr0, hh0⟩ := Zpe hg0 hv0
  have he0 : cs0 = (gv_frame_syncs.toList.map fun z => Value.int .u16 z).toArray := by rw [← hc0]
  rw [he0] at hh0
  refine ⟨by have := ZpV hh0; show 1 ≤ _; omega, (fun b h => by cases h), fun p hp => ?_⟩
  have hp : p ∈ [(0, (gv_frame_syncs.toList.map fun z => Value.int .u16 z).toArray)] := hp
  rcases List.mem_cons.1 hp with rfl | hp
  · exact ⟨by show 0 < 1; omega, ⟨e0, fr0, hh0⟩, fun h => h.elim⟩
  cases hp
set_option maxRecDepth 100000 in
theorem lifted (os : Os) (started : os.Started) (H : Type) (enc : TypeId × Value → H) :
    ReturnsInHanded {} Tryz.checked os 5 .any (fun w args => (Rows.salvageOrderDoesNotMatterSpec.pre enc Tryz.prog Tryz.f5 [] false w args ∧ laidMetH Tryz.prog Rows.salvageOrderDoesNotMatterRow.laid w) ∧ sizedMet enc Tryz.prog Tryz.f5 (OpenSpec.ofChange Rows.salvageOrderDoesNotMatterSpec) false w args) (Rows.salvageOrderDoesNotMatterSpec.post enc Tryz.prog Tryz.f5 false true false false) := by
  refine returnsInHanded_of_change_and (C := Tryz.checked) (X := fun w _ => laidMetH Tryz.prog Rows.salvageOrderDoesNotMatterRow.laid w) (fun _ _ _ hh h => h.of_heap hh) own started (by kernel_rfl) Tryz.func5
    (ChangeSpec.witness_shaped (enc := enc) (C := Tryz.checked) (os := os) (X := fun w _ => laidMetH Tryz.prog Rows.salvageOrderDoesNotMatterRow.laid w) false (World.laidAll Tryz.prog os Rows.salvageOrderDoesNotMatterRow.laid) #[.slice none 0 0] 8 (World.laidAll_os _ _ _) (World.shaped_of_ZipB (by kernel_rfl) (by kernel_rfl)) (by kernel_rfl) (by kernel_rfl) (by kernel_rfl) (door_met os _)) ?_
  intro W base args ds gs before hval0 hW hcnd hz hL _
  have hval : ∀ (j : Nat) t v, Tryz.f5.params[j]? = some t → args[j]? = some v → Value.okWide Tryz.prog W .any base t v := hval0
  have hW' := hW
  obtain ⟨p, q, hA0, hV, rfl, hfz, hnd⟩ := hW
  have hA : DataW.TrodAll enc Tryz.prog W 0 (fun _ => true) true Tryz.f5.params.toList args.toList ds p := hA0
  rw [Tryz.params5] at hA hval
  obtain ⟨v0, vs0, d0, ds0, p0, q0, hargs, rfl, rfl, h0, r0⟩ := trodAll_cons hA
  obtain ⟨rfl, rfl, rfl⟩ := trodAll_nil r0
  obtain rfl : args = #[v0] := by cases args; simp_all
  obtain ⟨rfl, rfl⟩ := trodVars_none hV
  have lt0 : ∀ x ∈ p0, x.block < W.heap.size := by obtain ⟨m, hm⟩ := h0; exact DataW.trod_lt m _ _ _ hm
  have c0 : v0.cells = #[v0] := by obtain ⟨_, _, _, rfl⟩ := okWide_slice Tryz.underlying76 (hval 0 76 v0 rfl rfl); rfl
  obtain ⟨l0, g0, e0⟩ := Zqf 9 c0 h0 sh76
  obtain ⟨x0, hx0, rfl⟩ := Zo8 (f := R68) (p := XV) (fun _ h => op68 h) (show Fits (.sl 68 [.sl 5 [.int .u8], .bool]) l0 from g0)
  refine ((Zcz (r := true) (ZmO x0 hx0)).spec No W #[v0] (fun _ h => h.elim) (glok hL) rfl (fun i hi => ?_)).mono fun e W' ⟨v, he, bel, hr⟩ => ?_
  · match i, hi with
    | 0, _ => exact e0
  · cases hr
    subst he
    exact ⟨_, rfl, _, _, _, [], _, [], hW', trodAll_mk1 (shut_bool Tryz.underlying4 _), (trodAll_cons_mk (Below.trod laidOut (by kernel_rfl) (of_decide_eq_true (by kernel_rfl)) h0 bel lt0) trodAll_mk0), rfl, bel.frame _, fun h => by cases h⟩

theorem jInPlace : (Rows.salvageOrderDoesNotMatterRow.inPlace == Tryz.prog.inPlace 5) = true := by kernel_rfl
theorem jUnfollowed : (Rows.salvageOrderDoesNotMatterRow.unfollowed == Tryz.prog.unfollowed 5) = true := by kernel_rfl
theorem jRecurses : (Rows.salvageOrderDoesNotMatterRow.recurses == Tryz.prog.recurses 5) = true := by kernel_rfl
theorem jNamed : (Rows.salvageOrderDoesNotMatterRow.named == Tryz.prog.varsNamed 5) = true := by kernel_rfl
set_option maxRecDepth 100000 in
theorem joined : joinedFacts Tryz.prog 5 Tryz.f5 Rows.salvageOrderDoesNotMatterSpec Rows.salvageOrderDoesNotMatterRow = true := by
  unfold joinedFacts
  rw [jInPlace, jUnfollowed, jRecurses, jNamed]
  kernel_rfl
theorem over : Rows.salvageOrderDoesNotMatterRow.holds Tryz.pinned (OpenSpec.ofChange Rows.salvageOrderDoesNotMatterSpec) :=
  OpenClaim.holds_of_wide 5 Tryz.f5 rfl rfl rfl rfl rfl rfl rfl ⟨rfl, rfl, rfl, rfl, rfl⟩ rfl rfl rfl rfl rfl (by kernel_rfl) Tryz.func5 joined
    (of_decide_eq_true (by kernel_rfl)) (by unfold Func.isWrapper; first | (rw [if_pos (by decide +kernel)]; kernel_rfl) | (rw [if_neg (by decide +kernel)]; exact ⟨rfl, rfl⟩))
    (fun os started H enc _ => lifted os started H enc)
end Go.Proofs.YthdiljjohpamnaaGreatDoorRR.salvageOrderDoesNotMatter
