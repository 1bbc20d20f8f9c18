/- A text of the proof: a verified executor of the program form, or the contracts of the functions that the law reaches. -/
import Derived.Test.YtieneanhpdhfiaaDoorOkS
import Derived.Test.YtieneanhpdhfiaaDoorPA
import Derived.Test.YtieneanhpdhfiaaDoorVH
import Derived.Test.YtieneanhpdhfiaaDoorVP
import Derived.Test.YtieneanhpdhfiaaDoorVX
import Derived.Test.YtieneanhpdhfiaaDoorRows
import Derived.WalkKit
import Derived.ProofKit
import Derived.OpenShut
import Derived.ChangeOld
import Derived.Below
import Derived.LaidMore
import Derived.Lay
import Derived.Stop.Joined
import Derived.Lib.LaidTab
import Derived.MakeChecks
import Derived.SevenTiedAt
import Derived.Test.YtieneanhpdhfiaaDoorCards
import Derived.Test.YtieneanhpdhfiaaDoorTie
set_option linter.all false
namespace Go.Proofs.YtieneanhpdhfiaaDoor.seriesTextsMatchSpec
open Go Go.ChangeShapes Go.WideShapes Go.ChangeAt Go.RowKit Go.Vx
set_option linter.unusedVariables false
theorem op44 {l : List AV} (h : Zaj [.int .i64, .int .i64, .int .i64] l) : ∃ x : api_Sample, X1 x ∧ l = [.int .i64 x.At, .int .i64 x.N, .int .i64 x.Mark] := by
  obtain ⟨h1, h2⟩ := h
  match l, h1 with
  | [a0, a1, a2], _ =>
    obtain ⟨x0, w0, rfl⟩ := Za5 (show Fits (.int .i64) a0 from h2 0 (by simp))
    obtain ⟨x1, w1, rfl⟩ := Za5 (show Fits (.int .i64) a1 from h2 1 (by simp))
    obtain ⟨x2, w2, rfl⟩ := Za5 (show Fits (.int .i64) a2 from h2 2 (by simp))
    exact ⟨(api_Sample.mk x0 x1 x2), ⟨w0, w1, w2, trivial⟩, rfl⟩
theorem op24 {l : List AV} (h : Zaj [.int .i64, .sl 44 [.int .i64, .int .i64, .int .i64]] l) : ∃ x : api_Series, ZbI x ∧ l = [.int .i64 x.Den, .sl 44 (List.map R44 x.Samples)] := by
  obtain ⟨h1, h2⟩ := h
  match l, h1 with
  | [a0, a1], _ =>
    obtain ⟨x0, w0, rfl⟩ := Za5 (show Fits (.int .i64) a0 from h2 0 (by simp))
    obtain ⟨x1, w1, rfl⟩ := Zgf (f := R44) (p := X1) (fun _ h => op44 h) (show Fits (.sl 44 [.int .i64, .int .i64, .int .i64]) a1 from h2 1 (by simp))
    exact ⟨(api_Series.mk x0 x1), ⟨w0, w1, trivial⟩, rfl⟩
theorem own : ownKnob Tryd.prog.godebug = Option.none := by kernel_rfl
theorem laidOut : laidOutB Tryd.prog = true := by kernel_rfl
theorem sh9 : Zcn Tryd.prog 9 9 = some [.str] := by kernel_rfl
theorem sh24 : Zcn Tryd.prog 9 24 = some [.int .i64, .sl 44 [.int .i64, .int .i64, .int .i64]] := by kernel_rfl
set_option maxRecDepth 100000 in
theorem door_met (os : Os) (args : Array Value) : laidMetH Tryd.prog Rows.seriesTextsMatchSpecRow.laid ((World.laidAll Tryd.prog os Rows.seriesTextsMatchSpecRow.laid).forCall (fun _ _ => 0) ⟨#[], args, []⟩).memory := by
  rw [MakeChecks.laidMetH_plain _ _ _ (by kernel_rfl)]; exact laidMet_laidAll _ (by kernel_rfl) (by kernel_rfl)
set_option maxRecDepth 100000 in
theorem glok {W : World} (h : laidMetH Tryd.prog Rows.seriesTextsMatchSpecRow.laid W) (hsh : W.ShapedOpen Tryd.prog) : ∃ Gx : GX, GlOK (gl0 Gx) W No [] := by
  rw [MakeChecks.laidMetH_plain _ _ _ (by kernel_rfl)] at h
  obtain ⟨ps, ⟨g0, t0, cs0, f0, p0, q0, hg0, ht0, hv0, hd0, ⟨g1, t1, cs1, f1, p1, q1, hg1, ht1, hv1, hd1, ⟨g2, t2, cs2, f2, p2, q2, hg2, ht2, hv2, hd2, ⟨g3, t3, cs3, f3, p3, q3, hg3, ht3, hv3, hd3, ⟨g4, t4, cs4, f4, p4, q4, hg4, ht4, hv4, hd4, ⟨g5, t5, cs5, f5, p5, q5, hg5, ht5, hv5, hd5, ⟨g6, t6, cs6, f6, p6, q6, hg6, ht6, hv6, hd6, ⟨g7, t7, cs7, f7, p7, q7, hg7, ht7, hv7, hd7, _, _⟩, _⟩, _⟩, _⟩, _⟩, _⟩, _⟩, _⟩, _, _⟩ := h
  obtain rfl := Option.some.inj ((show Tryd.prog.globalNamed _ = some 0 by kernel_rfl).symm.trans hg6)
  obtain rfl := Option.some.inj ((show (Tryd.prog.globals[0]?).map (·.type) = some 45 by kernel_rfl).symm.trans ht6)
  have hc0 := ZbP (zs := gv_series_markWords.toList) Tryd.underlying45 Tryd.underlying9 (by kernel_rfl) (by kernel_rfl) hd6
  obtain ⟨e0, fr0, hh0⟩ := Zaa hg6 hv6
  have he0 : cs6 = (gv_series_markWords.toList.map fun z => Value.string ⟨z.toArray⟩).toArray := by rw [← hc0]
  rw [he0] at hh0
  obtain ⟨csml, e1, fr1, mml, hh1, hml⟩ := ZeY (cell_of_shapedOpen_int (P := Tryd.prog) (g := 1) (t := 3) (zero := #[.int .i64 0]) hsh (of_decide_eq_true (by kernel_rfl)) (by kernel_rfl) rfl (by kernel_rfl) (by kernel_rfl) Tryd.underlying3)
  obtain rfl := Option.some.inj ((show Tryd.prog.globalNamed _ = some 2 by kernel_rfl).symm.trans hg2)
  obtain rfl := Option.some.inj ((show (Tryd.prog.globals[2]?).map (·.type) = some 111 by kernel_rfl).symm.trans ht2)
  have hc2 := Go.Lib.cells_of_tab (zs := Go.Lib.pow10Tab) (k := .u64) Tryd.underlying111 Tryd.underlying93 (by kernel_rfl) (by kernel_rfl) hd2
  obtain ⟨e2, fr2, hh2⟩ := Zaa hg2 hv2
  have he2 : cs2 = (Go.Lib.pow10Tab.map fun z => Value.int .u64 z).toArray := by rw [← hc2]
  rw [he2] at hh2
  obtain rfl := Option.some.inj ((show Tryd.prog.globalNamed _ = some 3 by kernel_rfl).symm.trans hg5)
  obtain rfl := Option.some.inj ((show (Tryd.prog.globals[3]?).map (·.type) = some 39 by kernel_rfl).symm.trans ht5)
  obtain ⟨ues, ves, hc3⟩ := ZcD Tryd.underlying39 hd5
  have hes : cs5[0]? = some (.iface ues ves) := by rw [← Array.getElem?_toList, hc3]; rfl
  obtain ⟨e3, fr3, hh3⟩ := Zaa hg5 hv5
  obtain rfl := Option.some.inj ((show Tryd.prog.globalNamed _ = some 4 by kernel_rfl).symm.trans hg4)
  obtain rfl := Option.some.inj ((show (Tryd.prog.globals[4]?).map (·.type) = some 39 by kernel_rfl).symm.trans ht4)
  obtain ⟨uer, ver, hc4⟩ := ZcD Tryd.underlying39 hd4
  have her : cs4[0]? = some (.iface uer ver) := by rw [← Array.getElem?_toList, hc4]; rfl
  obtain ⟨e4, fr4, hh4⟩ := Zaa hg4 hv4
  refine ⟨⟨csml, mml, hml, cs5, ues, ves, hes, cs4, uer, ver, her⟩, ?_⟩
  refine ⟨by have := Zfd hh4; show 5 ≤ _; omega, (fun b h => by cases h), fun p hp => ?_⟩
  have hp : p ∈ [(0, (gv_series_markWords.toList.map fun z => Value.string ⟨z.toArray⟩).toArray), (1, csml), (2, (Go.Lib.pow10Tab.map fun z => Value.int .u64 z).toArray), (3, cs5), (4, cs4)] := hp
  rcases List.mem_cons.1 hp with rfl | hp
  · exact ⟨by show 0 < 5; omega, ⟨e0, fr0, hh0⟩, fun h => h.elim⟩
  rcases List.mem_cons.1 hp with rfl | hp
  · exact ⟨by show 1 < 5; omega, ⟨e1, fr1, hh1⟩, fun h => h.elim⟩
  rcases List.mem_cons.1 hp with rfl | hp
  · exact ⟨by show 2 < 5; omega, ⟨e2, fr2, hh2⟩, fun h => h.elim⟩
  rcases List.mem_cons.1 hp with rfl | hp
  · exact ⟨by show 3 < 5; omega, ⟨e3, fr3, hh3⟩, fun h => h.elim⟩
  rcases List.mem_cons.1 hp with rfl | hp
  · exact ⟨by show 4 < 5; omega, ⟨e4, fr4, hh4⟩, fun h => h.elim⟩
  cases hp
set_option maxRecDepth 100000 in
theorem lifted (os : Os) (started : os.Started) (H : Type) (enc : TypeId × Value → H) :
    ReturnsInHanded {} Tryd.checked os 3 .any (fun w args => (Rows.seriesTextsMatchSpecSpec.pre enc Tryd.prog Tryd.f3 [] false w args ∧ laidMetH Tryd.prog Rows.seriesTextsMatchSpecRow.laid w) ∧ sizedMet enc Tryd.prog Tryd.f3 (OpenSpec.ofChange Rows.seriesTextsMatchSpecSpec) false w args) (Rows.seriesTextsMatchSpecSpec.post enc Tryd.prog Tryd.f3 false true false false) := by
  refine ZbJ (C := Tryd.checked) (X := fun w _ => laidMetH Tryd.prog Rows.seriesTextsMatchSpecRow.laid w) (fun _ _ _ hh h => h.of_heap hh) own started (by kernel_rfl) Tryd.func3
    (ChangeSpec.witness_shaped (enc := enc) (C := Tryd.checked) (os := os) (X := fun w _ => laidMetH Tryd.prog Rows.seriesTextsMatchSpecRow.laid w) false (World.laidAll Tryd.prog os Rows.seriesTextsMatchSpecRow.laid) #[.agg #[.int .i64 0, .slice none 0 0], .string ⟨#[]⟩] 8 (World.laidAll_os _ _ _) (World.shaped_of_ZipB (by kernel_rfl) (by kernel_rfl)) (by kernel_rfl) (by kernel_rfl) (by kernel_rfl) (door_met os _)) ?_
  intro W base args ds gs before hval0 hW hcnd hz hL hsh
  have hval : ∀ (j : Nat) t v, Tryd.f3.params[j]? = some t → args[j]? = some v → Value.okWide Tryd.prog W .any base t v := hval0
  have hW' := hW
  obtain ⟨p, q, hA0, hV, rfl, hfz, hnd⟩ := hW
  have hA : DataW.TrodAll enc Tryd.prog W 0 (fun _ => true) true Tryd.f3.params.toList args.toList ds p := hA0
  rw [Tryd.params3] at hA hval
  obtain ⟨v0, vs0, d0, ds0, p0, q0, hargs, rfl, rfl, h0, r0⟩ := trodAll_cons hA
  obtain ⟨v1, vs1, d1, ds1, p1, q1, rfl, rfl, rfl, h1, r1⟩ := trodAll_cons r0
  obtain ⟨rfl, rfl, rfl⟩ := trodAll_nil r1
  obtain rfl : args = #[v0, v1] := by cases args; simp_all
  obtain ⟨rfl, rfl⟩ := trodVars_none hV
  have lt0 : ∀ x ∈ p0, x.block < W.heap.size := by obtain ⟨m, hm⟩ := h0; exact DataW.trod_lt m _ _ _ hm
  obtain ⟨l0, g0, e0⟩ := Zfz 9 Tryd.underlying24 (hval 0 24 v0 rfl rfl) h0 sh24
  obtain ⟨x0, hx0, rfl⟩ := op24 g0
  have lt1 : ∀ x ∈ p1, x.block < W.heap.size := by obtain ⟨m, hm⟩ := h1; exact DataW.trod_lt m _ _ _ hm
  have c1 : v1.cells = #[v1] := by obtain ⟨_, rfl⟩ := okWide_string Tryd.underlying9 (hval 1 9 v1 rfl rfl); rfl
  obtain ⟨l1, g1, e1⟩ := Ze4 9 c1 h1 sh9
  obtain ⟨x1, hx1, rfl⟩ := ZfA (show Fits .str l1 from g1)
  obtain ⟨Gx, hG⟩ := glok hL hsh
  refine ((Xu (r := true) (Zdb x0 x1)).spec No W #[v0, v1] (fun _ h => h.elim) hG rfl (fun i hi => ?_)).mono fun e W' ⟨v, he, bel, hr⟩ => ?_
  · match i, hi with
    | 0, _ => exact e0
    | 1, _ => exact e1
  · cases hr
    subst he
    exact ⟨_, rfl, _, _, _, [], _, [], hW', trodAll_mk1 (shut_bool Tryd.underlying4 _), (trodAll_cons_mk (Below.trod laidOut (by kernel_rfl) (of_decide_eq_true (by kernel_rfl)) h0 bel lt0) (trodAll_cons_mk (Below.trod laidOut (by kernel_rfl) (of_decide_eq_true (by kernel_rfl)) h1 bel lt1) trodAll_mk0)), rfl, bel.frame _, fun h => by cases h⟩

theorem jInPlace : (Rows.seriesTextsMatchSpecRow.inPlace == Tryd.prog.inPlace 3) = true := by kernel_rfl
theorem jUnfollowed : (Rows.seriesTextsMatchSpecRow.unfollowed == Tryd.prog.unfollowed 3) = true := by kernel_rfl
theorem jRecurses : (Rows.seriesTextsMatchSpecRow.recurses == Tryd.prog.recurses 3) = true := by kernel_rfl
theorem jNamed : (Rows.seriesTextsMatchSpecRow.named == Tryd.prog.varsNamed 3) = true := by kernel_rfl
set_option maxRecDepth 100000 in
theorem joined : joinedFacts Tryd.prog 3 Tryd.f3 Rows.seriesTextsMatchSpecSpec Rows.seriesTextsMatchSpecRow = true := by
  unfold joinedFacts
  rw [jInPlace, jUnfollowed, jRecurses, jNamed]
  kernel_rfl
theorem over : Rows.seriesTextsMatchSpecRow.holds Tryd.pinned (OpenSpec.ofChange Rows.seriesTextsMatchSpecSpec) :=
  OpenClaim.holds_of_wide 3 Tryd.f3 rfl rfl rfl rfl rfl rfl rfl ⟨rfl, rfl, rfl, rfl, rfl⟩ rfl rfl rfl rfl rfl (by kernel_rfl) Tryd.func3 joined
    (of_decide_eq_true (by kernel_rfl)) (by unfold Func.isWrapper; first | (rw [if_pos (by decide +kernel)]; kernel_rfl) | (rw [if_neg (by decide +kernel)]; exact ⟨rfl, rfl⟩))
    (fun os started H enc _ => lifted os started H enc)
end Go.Proofs.YtieneanhpdhfiaaDoor.seriesTextsMatchSpec
