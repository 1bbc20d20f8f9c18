/- A text of the proof: a verified executor of the program form, or the contracts of the functions that the law reaches. -/
import Derived.Test.YtecdkapjjhkanaaOkHld
import Derived.Test.YtecdkapjjhkanaaPL
import Derived.Test.YtecdkapjjhkanaaVyE
import Derived.Test.YtecdkapjjhkanaaRows
import Derived.WalkKit
import Derived.ProofKit
import Derived.OpenShut
import Derived.ChangeOld
import Derived.Below
set_option linter.all false
namespace Go.Proofs.Ytecdkapjjhkanaa.seriesHoldMatchesSpec
open Go Go.ChangeShapes Go.WideShapes Go.ChangeAt Go.RowKit Go.Vx
set_option linter.unusedVariables false
theorem op27 {l : List AV} (h : FitsL [.int .i64, .int .i64, .int .i64] l) : ∃ x : api_Sample, l = [.int .i64 x.At, .int .i64 x.N, .int .i64 x.Mark] := by
  obtain ⟨h1, h2⟩ := h
  match l, h1 with
  | [a0, a1, a2], _ =>
    obtain ⟨x0, rfl⟩ := int_of (show Fits (.int .i64) a0 from h2 0 (by simp))
    obtain ⟨x1, rfl⟩ := int_of (show Fits (.int .i64) a1 from h2 1 (by simp))
    obtain ⟨x2, rfl⟩ := int_of (show Fits (.int .i64) a2 from h2 2 (by simp))
    exact ⟨(api_Sample.mk x0 x1 x2), rfl⟩
theorem op24 {l : List AV} (h : FitsL [.int .i64, .sl 27 [.int .i64, .int .i64, .int .i64]] l) : ∃ x : api_Series, l = [.int .i64 x.Den, .sl 27 (List.map R27 x.Samples)] := by
  obtain ⟨h1, h2⟩ := h
  match l, h1 with
  | [a0, a1], _ =>
    obtain ⟨x0, rfl⟩ := int_of (show Fits (.int .i64) a0 from h2 0 (by simp))
    obtain ⟨x1, rfl⟩ := sl_of (f := R27) (fun _ h => op27 h) (show Fits (.sl 27 [.int .i64, .int .i64, .int .i64]) a1 from h2 1 (by simp))
    exact ⟨(api_Series.mk x0 x1), rfl⟩
theorem own : ownKnob Try.prog.godebug = Option.none := by kernel_rfl
theorem laidOut : laidOutB Try.prog = true := by kernel_rfl
theorem sh3 : shOf Try.prog 9 3 = some [.int .i64] := by kernel_rfl
theorem sh24 : shOf Try.prog 9 24 = some [.int .i64, .sl 27 [.int .i64, .int .i64, .int .i64]] := by kernel_rfl
set_option maxRecDepth 100000 in
theorem lifted (os : Os) (started : os.Started) (H : Type) (enc : TypeId × Value → H) :
    ReturnsInHanded {} Try.checked os 6 .any (Rows.seriesHoldMatchesSpecSpec.pre6 enc Try.prog Try.f6 Rows.seriesHoldMatchesSpecRow.domain false) (Rows.seriesHoldMatchesSpecSpec.post enc Try.prog Try.f6 false true false false) := by
  refine returnsInHanded_of_change (C := Try.checked) own started (by kernel_rfl) Try.func6
    (ChangeSpec.witness6 (enc := enc) (C := Try.checked) false ⟨#[], #[.agg #[.int .i64 0, .slice none 0 0], .int .i64 0, .int .i64 0], []⟩ 8 (by kernel_rfl) (by kernel_rfl) (by kernel_rfl) (by kernel_rfl)) ?_
  intro W base args ds gs before hval0 hW hcnd _
  have hval : ∀ (j : Nat) t v, Try.f6.params[j]? = some t → args[j]? = some v → Value.okWide Try.prog W .any base t v := hval0
  have hW' := hW
  obtain ⟨p, q, hA0, hV, rfl, hfz, hnd⟩ := hW
  have hA : DataW.TrodAll enc Try.prog W 0 (fun _ => true) true Try.f6.params.toList args.toList ds p := hA0
  rw [Try.params6] at hA hval
  obtain ⟨v0, vs0, d0, ds0, p0, q0, hargs, rfl, rfl, h0, r0⟩ := trodAll_cons hA
  obtain ⟨v1, vs1, d1, ds1, p1, q1, rfl, rfl, rfl, h1, r1⟩ := trodAll_cons r0
  obtain ⟨v2, vs2, d2, ds2, p2, q2, rfl, rfl, rfl, h2, r2⟩ := trodAll_cons r1
  obtain ⟨rfl, rfl, rfl⟩ := trodAll_nil r2
  obtain rfl : args = #[v0, v1, v2] := by cases args; simp_all
  obtain ⟨rfl, rfl⟩ := trodVars_none hV
  have lt0 : ∀ x ∈ p0, x.block < W.heap.size := by obtain ⟨m, hm⟩ := h0; exact DataW.trod_lt m _ _ _ hm
  obtain ⟨l0, g0, e0⟩ := arg_agg 9 Try.underlying24 (hval 0 24 v0 rfl rfl) h0 sh24
  obtain ⟨x0, rfl⟩ := op24 g0
  have lt1 : ∀ x ∈ p1, x.block < W.heap.size := by obtain ⟨m, hm⟩ := h1; exact DataW.trod_lt m _ _ _ hm
  have c1 : v1.cells = #[v1] := by obtain ⟨_, rfl⟩ := okWide_int Try.underlying3 (hval 1 3 v1 rfl rfl); rfl
  obtain ⟨l1, g1, e1⟩ := arg_one 9 c1 h1 sh3
  obtain ⟨x1, rfl⟩ := int_of (show Fits (.int .i64) l1 from g1)
  have lt2 : ∀ x ∈ p2, x.block < W.heap.size := by obtain ⟨m, hm⟩ := h2; exact DataW.trod_lt m _ _ _ hm
  have c2 : v2.cells = #[v2] := by obtain ⟨_, rfl⟩ := okWide_int Try.underlying3 (hval 2 3 v2 rfl rfl); rfl
  obtain ⟨l2, g2, e2⟩ := arg_one 9 c2 h2 sh3
  obtain ⟨x2, rfl⟩ := int_of (show Fits (.int .i64) l2 from g2)
  refine ((ok_law5_SeriesHoldMatchesSpec (r := true) (law_Hold x0 x1 x2)).spec No W #[v0, v1, v2] (fun _ h => h.elim) ⟨Nat.zero_le _, (fun b h => by cases h), fun p hp => by cases hp⟩ rfl (fun i hi => ?_)).mono fun e W' ⟨v, he, bel, hr⟩ => ?_
  · match i, hi with
    | 0, _ => exact e0
    | 1, _ => exact e1
    | 2, _ => exact e2
  · cases hr
    subst he
    exact ⟨_, rfl, _, _, _, [], _, [], hW', trodAll_mk1 (shut_bool Try.underlying4 _), (trodAll_cons_mk (Below.trod laidOut (by kernel_rfl) (of_decide_eq_true (by kernel_rfl)) h0 bel lt0) (trodAll_cons_mk (Below.trod laidOut (by kernel_rfl) (of_decide_eq_true (by kernel_rfl)) h1 bel lt1) (trodAll_cons_mk (Below.trod laidOut (by kernel_rfl) (of_decide_eq_true (by kernel_rfl)) h2 bel lt2) trodAll_mk0))), rfl, bel.frame _, fun h => by cases h⟩

theorem over : Rows.seriesHoldMatchesSpecRow.holds Try.pinned (OpenSpec.ofChange Rows.seriesHoldMatchesSpecSpec) :=
  OpenClaim.holds_of_wide 6 Try.f6 rfl rfl rfl rfl rfl rfl rfl ⟨rfl, rfl, rfl, rfl, rfl⟩ rfl rfl rfl rfl rfl (by kernel_rfl) Try.func6 (by kernel_rfl)
    (of_decide_eq_true (by kernel_rfl)) (by unfold Func.isWrapper; first | (rw [if_pos (by decide +kernel)]; kernel_rfl) | (rw [if_neg (by decide +kernel)]; exact ⟨rfl, rfl⟩))
    (fun os started H enc _ => lifted os started H enc)

theorem proved : Rows.SeriesHoldMatchesSpecSaid := over
end Go.Proofs.Ytecdkapjjhkanaa.seriesHoldMatchesSpec
