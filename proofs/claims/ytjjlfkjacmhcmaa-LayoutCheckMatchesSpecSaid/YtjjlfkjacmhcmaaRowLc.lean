/- A text of the proof: a verified executor of the program form, or the contracts of the functions that the law reaches. -/
import Derived.Test.YtjjlfkjacmhcmaaOkC
import Derived.Test.YtjjlfkjacmhcmaaPB
import Derived.Test.YtjjlfkjacmhcmaaVH
import Derived.Test.YtjjlfkjacmhcmaaVP
import Derived.Test.YtjjlfkjacmhcmaaRows
import Derived.WalkKit
import Derived.ProofKit
import Derived.OpenShut
import Derived.ChangeOld
import Derived.Below
set_option linter.all false
namespace Go.Proofs.Ytjjlfkjacmhcmaa.layoutCheckMatchesSpec
open Go Go.ChangeShapes Go.WideShapes Go.ChangeAt Go.RowKit Go.Vx
set_option linter.unusedVariables false
theorem op64 {l : List AV} (h : Zdw [.int .i64, .int .i64, .int .i64, .int .i64] l) : ∃ x : api_Part, ZdE x ∧ l = [.int .i64 x.Frame, .int .i64 x.Word, .int .i64 x.Low, .int .i64 x.Bits] := by
  obtain ⟨h1, h2⟩ := h
  match l, h1 with
  | [a0, a1, a2, a3], _ =>
    obtain ⟨x0, w0, rfl⟩ := Zbo (show Fits (.int .i64) a0 from h2 0 (by simp))
    obtain ⟨x1, w1, rfl⟩ := Zbo (show Fits (.int .i64) a1 from h2 1 (by simp))
    obtain ⟨x2, w2, rfl⟩ := Zbo (show Fits (.int .i64) a2 from h2 2 (by simp))
    obtain ⟨x3, w3, rfl⟩ := Zbo (show Fits (.int .i64) a3 from h2 3 (by simp))
    exact ⟨(api_Part.mk x0 x1 x2 x3), ⟨w0, w1, w2, w3, trivial⟩, rfl⟩
theorem op9 {l : List AV} (h : Zdw [.str] l) : ∃ x : Str, wfS x ∧ l = [.str x] := by
  obtain ⟨h1, h2⟩ := h
  match l, h1 with
  | [a0], _ =>
    obtain ⟨x0, w0, rfl⟩ := ZiF (show Fits .str a0 from h2 0 (by simp))
    exact ⟨x0, w0, rfl⟩
theorem op44 {l : List AV} (h : Zdw [.str, .int .i64, .sl 64 [.int .i64, .int .i64, .int .i64, .int .i64], .int .i64, .int .i64, .int .i64, .int .i64, .sl 9 [.str]] l) : ∃ x : api_Param, ZaW x ∧ l = [.str x.Name, .int .i64 x.Kind, .sl 64 (List.map R64 x.Parts), .int .i64 x.First, .int .i64 x.Every, .int .i64 x.Times, .int .i64 x.Step, .sl 9 (List.map R9 x.Names)] := by
  obtain ⟨h1, h2⟩ := h
  match l, h1 with
  | [a0, a1, a2, a3, a4, a5, a6, a7], _ =>
    obtain ⟨x0, w0, rfl⟩ := ZiF (show Fits .str a0 from h2 0 (by simp))
    obtain ⟨x1, w1, rfl⟩ := Zbo (show Fits (.int .i64) a1 from h2 1 (by simp))
    obtain ⟨x2, w2, rfl⟩ := Zh9 (f := R64) (p := ZdE) (fun _ h => op64 h) (show Fits (.sl 64 [.int .i64, .int .i64, .int .i64, .int .i64]) a2 from h2 2 (by simp))
    obtain ⟨x3, w3, rfl⟩ := Zbo (show Fits (.int .i64) a3 from h2 3 (by simp))
    obtain ⟨x4, w4, rfl⟩ := Zbo (show Fits (.int .i64) a4 from h2 4 (by simp))
    obtain ⟨x5, w5, rfl⟩ := Zbo (show Fits (.int .i64) a5 from h2 5 (by simp))
    obtain ⟨x6, w6, rfl⟩ := Zbo (show Fits (.int .i64) a6 from h2 6 (by simp))
    obtain ⟨x7, w7, rfl⟩ := Zh9 (f := R9) (p := wfS) (fun _ h => op9 h) (show Fits (.sl 9 [.str]) a7 from h2 7 (by simp))
    exact ⟨(api_Param.mk x0 x1 x2 x3 x4 x5 x6 x7), ⟨w0, w1, w2, w3, w4, w5, w6, w7, trivial⟩, rfl⟩
theorem op24 {l : List AV} (h : Zdw [.int .i64, .sl 44 [.str, .int .i64, .sl 64 [.int .i64, .int .i64, .int .i64, .int .i64], .int .i64, .int .i64, .int .i64, .int .i64, .sl 9 [.str]]] l) : ∃ x : api_Map, Zam x ∧ l = [.int .i64 x.Version, .sl 44 (List.map R44 x.Params)] := by
  obtain ⟨h1, h2⟩ := h
  match l, h1 with
  | [a0, a1], _ =>
    obtain ⟨x0, w0, rfl⟩ := Zbo (show Fits (.int .i64) a0 from h2 0 (by simp))
    obtain ⟨x1, w1, rfl⟩ := Zh9 (f := R44) (p := ZaW) (fun _ h => op44 h) (show Fits (.sl 44 [.str, .int .i64, .sl 64 [.int .i64, .int .i64, .int .i64, .int .i64], .int .i64, .int .i64, .int .i64, .int .i64, .sl 9 [.str]]) a1 from h2 1 (by simp))
    exact ⟨(api_Map.mk x0 x1), ⟨w0, w1, trivial⟩, rfl⟩
theorem own : ownKnob Try.prog.godebug = Option.none := by kernel_rfl
theorem laidOut : laidOutB Try.prog = true := by kernel_rfl
theorem sh24 : Zh8 Try.prog 9 24 = some [.int .i64, .sl 44 [.str, .int .i64, .sl 64 [.int .i64, .int .i64, .int .i64, .int .i64], .int .i64, .int .i64, .int .i64, .int .i64, .sl 9 [.str]]] := by kernel_rfl
set_option maxRecDepth 100000 in
theorem lifted (os : Os) (started : os.Started) (H : Type) (enc : TypeId × Value → H) :
    ReturnsInHanded {} Try.checked os 3 .any (Rows.layoutCheckMatchesSpecSpec.pre6 enc Try.prog Try.f3 Rows.layoutCheckMatchesSpecRow.domain false) (Rows.layoutCheckMatchesSpecSpec.post enc Try.prog Try.f3 false true false false) := by
  refine returnsInHanded_of_change (C := Try.checked) own started (by kernel_rfl) Try.func3
    (ChangeSpec.witness6 (enc := enc) (C := Try.checked) false ⟨#[], #[.agg #[.int .i64 0, .slice none 0 0]], []⟩ 8 (by kernel_rfl) (by kernel_rfl) (by kernel_rfl) (by kernel_rfl)) ?_
  intro W base args ds gs before hval0 hW hcnd _
  have hval : ∀ (j : Nat) t v, Try.f3.params[j]? = some t → args[j]? = some v → Value.okWide Try.prog W .any base t v := hval0
  have hW' := hW
  obtain ⟨p, q, hA0, hV, rfl, hfz, hnd⟩ := hW
  have hA : DataW.TrodAll enc Try.prog W 0 (fun _ => true) true Try.f3.params.toList args.toList ds p := hA0
  rw [Try.params3] at hA hval
  obtain ⟨v0, vs0, d0, ds0, p0, q0, hargs, rfl, rfl, h0, r0⟩ := trodAll_cons hA
  obtain ⟨rfl, rfl, rfl⟩ := trodAll_nil r0
  obtain rfl : args = #[v0] := by cases args; simp_all
  obtain ⟨rfl, rfl⟩ := trodVars_none hV
  have lt0 : ∀ x ∈ p0, x.block < W.heap.size := by obtain ⟨m, hm⟩ := h0; exact DataW.trod_lt m _ _ _ hm
  obtain ⟨l0, g0, e0⟩ := ZkB 9 Try.underlying24 (hval 0 24 v0 rfl rfl) h0 sh24
  obtain ⟨x0, hx0, rfl⟩ := op24 g0
  refine ((Zba (r := true) (Zin x0 hx0)).spec No W #[v0] (fun _ h => h.elim) ⟨Nat.zero_le _, (fun b h => by cases h), fun p hp => by cases hp⟩ rfl (fun i hi => ?_)).mono fun e W' ⟨v, he, bel, hr⟩ => ?_
  · match i, hi with
    | 0, _ => exact e0
  · cases hr
    subst he
    exact ⟨_, rfl, _, _, _, [], _, [], hW', trodAll_mk1 (shut_bool Try.underlying4 _), (trodAll_cons_mk (Below.trod laidOut (by kernel_rfl) (of_decide_eq_true (by kernel_rfl)) h0 bel lt0) trodAll_mk0), rfl, bel.frame _, fun h => by cases h⟩

theorem jInPlace : (Rows.layoutCheckMatchesSpecRow.inPlace == Try.prog.inPlace 3) = true := by kernel_rfl
theorem jUnfollowed : (Rows.layoutCheckMatchesSpecRow.unfollowed == Try.prog.unfollowed 3) = true := by kernel_rfl
theorem jRecurses : (Rows.layoutCheckMatchesSpecRow.recurses == Try.prog.recurses 3) = true := by kernel_rfl
theorem jNamed : (Rows.layoutCheckMatchesSpecRow.named == Try.prog.varsNamed 3) = true := by kernel_rfl
set_option maxRecDepth 100000 in
theorem joined : joinedFacts Try.prog 3 Try.f3 Rows.layoutCheckMatchesSpecSpec Rows.layoutCheckMatchesSpecRow = true := by
  unfold joinedFacts
  rw [jInPlace, jUnfollowed, jRecurses, jNamed]
  kernel_rfl
theorem over : Rows.layoutCheckMatchesSpecRow.holds Try.pinned (OpenSpec.ofChange Rows.layoutCheckMatchesSpecSpec) :=
  OpenClaim.holds_of_wide 3 Try.f3 rfl rfl rfl rfl rfl rfl rfl ⟨rfl, rfl, rfl, rfl, rfl⟩ rfl rfl rfl rfl rfl (by kernel_rfl) Try.func3 joined
    (of_decide_eq_true (by kernel_rfl)) (by unfold Func.isWrapper; first | (rw [if_pos (by decide +kernel)]; kernel_rfl) | (rw [if_neg (by decide +kernel)]; exact ⟨rfl, rfl⟩))
    (fun os started H enc _ => lifted os started H enc)
theorem proved : Rows.LayoutCheckMatchesSpecSaid := over
end Go.Proofs.Ytjjlfkjacmhcmaa.layoutCheckMatchesSpec
