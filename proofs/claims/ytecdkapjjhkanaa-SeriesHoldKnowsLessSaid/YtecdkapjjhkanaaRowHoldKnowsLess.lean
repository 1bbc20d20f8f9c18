/- SeriesHoldKnowsLess returns true for every input and leaves its arguments as they read; no further condition. -/
import Derived.Test.YtecdkapjjhkanaaFnHold
import Derived.Test.YtecdkapjjhkanaaVxP
import Derived.Test.YtecdkapjjhkanaaRows
import Derived.WalkKit
import Derived.ProofKit
import Derived.OpenShut
import Derived.ChangeOld
import Derived.Below
set_option linter.all false
namespace Go.Proofs.Ytecdkapjjhkanaa.seriesHoldKnowsLess
open Go.ChangeShapes Go.WideShapes Go.ChangeAt Go.RowKit Go.Vx
set_option linter.unusedVariables false

theorem rows_of {α : Type} {f : α → List AV} : ∀ {l : List (List AV)}, (∀ i, i < l.length → ∃ x, l.getD i [] = f x) → ∃ xs : List α, l = xs.map f
  | [], _ => ⟨[], rfl⟩
  | a :: l, h => by
    obtain ⟨x, hx⟩ := h 0 (by simp)
    obtain ⟨xs, hxs⟩ := rows_of (l := l) (fun i hi => by simpa using h (i + 1) (by simpa using hi))
    exact ⟨x :: xs, by simp at hx; simp [hx, hxs]⟩
theorem int_of {k : IntKind} {av : AV} (h : Fits (.int k) av) : ∃ n, av = .int k n := by cases h; exact ⟨_, rfl⟩
theorem row1 {l : List AV} (hl : l.length = 1) (h : ∀ j, j < 1 → Fits ([Sh.int .i64].getD j .bool) (l.getD j .any)) : ∃ a, l = [.int .i64 a] := by
  match l, hl with
  | [x], _ =>
    obtain ⟨a, ha⟩ := int_of (h 0 (by omega))
    exact ⟨a, by simpa using ha⟩
theorem row3 {l : List AV} (hl : l.length = 3) (h : ∀ j, j < 3 → Fits ([Sh.int .i64, .int .i64, .int .i64].getD j .bool) (l.getD j .any)) : ∃ x : Sample, l = x.av := by
  match l, hl with
  | [x, y, z], _ =>
    obtain ⟨a, ha⟩ := int_of (h 0 (by omega))
    obtain ⟨b, hb⟩ := int_of (h 1 (by omega))
    obtain ⟨c, hc⟩ := int_of (h 2 (by omega))
    refine ⟨⟨a, b, c⟩, ?_⟩
    simp at ha hb hc
    simp [Sample.av, ha, hb, hc]
theorem samples_of {e : TypeId} {av : AV} (h : Fits (.sl e [.int .i64, .int .i64, .int .i64]) av) : ∃ xs : List Sample, av = .sl e (xs.map Sample.av) ∧ xs.length ≤ maxLen := by
  cases h with
  | @sl _ _ l hl h1 h2 =>
    obtain ⟨xs, rfl⟩ := rows_of (f := Sample.av) (l := l) fun i hi => row3 (by rw [List.getD_eq_getElem?_getD, List.getElem?_eq_getElem hi]; exact h1 _ (List.getElem_mem _)) fun j hj => h2 i j hi hj
    exact ⟨xs, rfl, by simpa using hl⟩
theorem ints_of {e : TypeId} {av : AV} (h : Fits (.sl e [.int .i64]) av) : ∃ zs : List Int, av = .sl e (zs.map fun z => [.int .i64 z]) ∧ zs.length ≤ maxLen := by
  cases h with
  | @sl _ _ l hl h1 h2 =>
    obtain ⟨xs, rfl⟩ := rows_of (f := fun z => [AV.int .i64 z]) (l := l) fun i hi => row1 (by rw [List.getD_eq_getElem?_getD, List.getElem?_eq_getElem hi]; exact h1 _ (List.getElem_mem _)) fun j hj => h2 i j hi hj
    exact ⟨xs, rfl, by simpa using hl⟩
theorem series_of {l : List AV} (h : FitsL [.int .i64, .sl 27 [.int .i64, .int .i64, .int .i64]] l) : ∃ den xs, l = seriesL den xs := by
  obtain ⟨h1, h2⟩ := h
  match l, h1 with
  | [x, y], _ =>
    obtain ⟨d, hd⟩ := int_of (h2 0 (by simp))
    obtain ⟨xs, hx, _⟩ := samples_of (h2 1 (by simp))
    exact ⟨d, xs, by simp at hd hx; simp [seriesL, hd, hx]⟩

theorem own : ownKnob Try.prog.godebug = none := by kernel_rfl
theorem laidOut : laidOutB Try.prog = true := by kernel_rfl
theorem sh3 : shOf Try.prog 9 3 = some [.int .i64] := by kernel_rfl
theorem sh24 : shOf Try.prog 9 24 = some [.int .i64, .sl 27 [.int .i64, .int .i64, .int .i64]] := by kernel_rfl
theorem sh25 : shOf Try.prog 9 25 = some [.sl 3 [.int .i64]] := by kernel_rfl
set_option maxRecDepth 100000 in
theorem lifted (os : Os) (started : os.Started) (H : Type) (enc : TypeId × Value → H) :
    ReturnsInHanded {} Try.checked os 3 .any (Rows.seriesHoldKnowsLessSpec.pre6 enc Try.prog Try.f3 Rows.seriesHoldKnowsLessRow.domain false) (Rows.seriesHoldKnowsLessSpec.post enc Try.prog Try.f3 false true false false) := by
  refine returnsInHanded_of_change (C := Try.checked) own started (by kernel_rfl) Try.func3
    (ChangeSpec.witness6 (enc := enc) (C := Try.checked) false ⟨#[], #[.agg #[.int .i64 0, .slice none 0 0], .slice none 0 0, .int .i64 0, .int .i64 0], []⟩ 8 (by kernel_rfl) (by kernel_rfl) (by kernel_rfl) (by kernel_rfl)) ?_
  intro W base args ds gs before hval0 hW hcnd _
  have hval : ∀ (j : Nat) t v, Try.f3.params[j]? = some t → args[j]? = some v → Value.okWide Try.prog W .any base t v := hval0
  have hW' := hW
  obtain ⟨p, q, hA0, hV, rfl, hfz, hnd⟩ := hW
  have hA : DataW.TrodAll enc Try.prog W 0 (fun _ => true) true Try.f3.params.toList args.toList ds p := hA0
  rw [Try.params3] at hA hval
  obtain ⟨v0, vs0, d0, ds0, p0, q0, hargs, rfl, rfl, h0, r0⟩ := trodAll_cons hA
  obtain ⟨v1, vs1, d1, ds1, p1, q1, rfl, rfl, rfl, h1, r1⟩ := trodAll_cons r0
  obtain ⟨v2, vs2, d2, ds2, p2, q2, rfl, rfl, rfl, h2, r2⟩ := trodAll_cons r1
  obtain ⟨v3, vs3, d3, ds3, p3, q3, rfl, rfl, rfl, h3, r3⟩ := trodAll_cons r2
  obtain ⟨rfl, rfl, rfl⟩ := trodAll_nil r3
  obtain rfl : args = #[v0, v1, v2, v3] := by cases args; simp_all
  obtain ⟨rfl, rfl⟩ := trodVars_none hV
  have lt0 : ∀ x ∈ p0, x.block < W.heap.size := by obtain ⟨m, hm⟩ := h0; exact DataW.trod_lt m _ _ _ hm
  obtain ⟨l0, g0, e0⟩ := arg_agg 9 Try.underlying24 (hval 0 24 v0 rfl rfl) h0 sh24
  obtain ⟨den, xs, rfl⟩ := series_of g0
  have lt1 : ∀ x ∈ p1, x.block < W.heap.size := by obtain ⟨m, hm⟩ := h1; exact DataW.trod_lt m _ _ _ hm
  have c1 : v1.cells = #[v1] := by obtain ⟨_, _, _, rfl⟩ := okWide_slice Try.underlying25 (hval 1 25 v1 rfl rfl); rfl
  obtain ⟨l1, g1, e1⟩ := arg_one 9 c1 h1 sh25
  obtain ⟨lost, rfl, hll⟩ := ints_of g1
  have lt2 : ∀ x ∈ p2, x.block < W.heap.size := by obtain ⟨m, hm⟩ := h2; exact DataW.trod_lt m _ _ _ hm
  have c2 : v2.cells = #[v2] := by obtain ⟨_, rfl⟩ := okWide_int Try.underlying3 (hval 2 3 v2 rfl rfl); rfl
  obtain ⟨l2, g2, e2⟩ := arg_one 9 c2 h2 sh3
  obtain ⟨t, rfl⟩ := int_of g2
  have lt3 : ∀ x ∈ p3, x.block < W.heap.size := by obtain ⟨m, hm⟩ := h3; exact DataW.trod_lt m _ _ _ hm
  have c3 : v3.cells = #[v3] := by obtain ⟨_, rfl⟩ := okWide_int Try.underlying3 (hval 3 3 v3 rfl rfl); rfl
  obtain ⟨l3, g3, e3⟩ := arg_one 9 c3 h3 sh3
  obtain ⟨long, rfl⟩ := int_of g3
  refine ((law_ok den xs lost t long (by simp only [maxLen] at hll; omega)).spec No W #[v0, v1, v2, v3] (fun _ h => h.elim) rfl (fun i hi => ?_)).mono fun e W' ⟨v, he, bel, hr⟩ => ?_
  · match i, hi with
    | 0, _ => exact e0
    | 1, _ => exact e1
    | 2, _ => exact e2
    | 3, _ => exact e3
  · cases hr
    subst he
    exact ⟨_, rfl, _, _, _, [], _, [], hW', trodAll_mk1 (shut_bool Try.underlying4 _), (trodAll_cons_mk (Below.trod laidOut (by kernel_rfl) (of_decide_eq_true (by kernel_rfl)) h0 bel lt0) (trodAll_cons_mk (Below.trod laidOut (by kernel_rfl) (of_decide_eq_true (by kernel_rfl)) h1 bel lt1) (trodAll_cons_mk (Below.trod laidOut (by kernel_rfl) (of_decide_eq_true (by kernel_rfl)) h2 bel lt2) (trodAll_cons_mk (Below.trod laidOut (by kernel_rfl) (of_decide_eq_true (by kernel_rfl)) h3 bel lt3) trodAll_mk0)))), rfl, bel.frame _, fun h => by cases h⟩

theorem over : Rows.seriesHoldKnowsLessRow.holds Try.pinned (OpenSpec.ofChange Rows.seriesHoldKnowsLessSpec) :=
  OpenClaim.holds_of_wide 3 Try.f3 rfl rfl rfl rfl rfl rfl rfl ⟨rfl, rfl, rfl, rfl, rfl⟩ rfl rfl rfl rfl rfl (by kernel_rfl) Try.func3 (by kernel_rfl)
    (of_decide_eq_true (by kernel_rfl)) (by unfold Func.isWrapper; first | (rw [if_pos (by decide +kernel)]; kernel_rfl) | (rw [if_neg (by decide +kernel)]; exact ⟨rfl, rfl⟩))
    (fun os started H enc _ => lifted os started H enc)

theorem proved : Rows.SeriesHoldKnowsLessSaid := over
end Go.Proofs.Ytecdkapjjhkanaa.seriesHoldKnowsLess

