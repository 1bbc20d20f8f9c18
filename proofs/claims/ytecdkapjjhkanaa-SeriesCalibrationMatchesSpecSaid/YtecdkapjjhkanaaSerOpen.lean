/- A text of the proof: a verified executor of the program form, or the contracts of the functions that the law reaches. -/
import Derived.Test.YtecdkapjjhkanaaFnCal
import Derived.Test.YtecdkapjjhkanaaVxP
set_option linter.all false
namespace Go.Proofs.Ytecdkapjjhkanaa
open Go Go.Vx

theorem rows_of {α : Type} {f : α → List AV} : ∀ {l : List (List AV)}, (∀ i, i < l.length → ∃ x, l.getD i [] = f x) → ∃ xs : List α, l = xs.map f
  | [], _ => ⟨[], rfl⟩
  | a :: l, h => by
    obtain ⟨x, hx⟩ := h 0 (by simp)
    obtain ⟨xs, hxs⟩ := rows_of (l := l) (fun i hi => by simpa using h (i + 1) (by simpa using hi))
    exact ⟨x :: xs, by simp at hx; simp [hx, hxs]⟩
theorem int_of {k : IntKind} {av : AV} (h : Fits (.int k) av) : ∃ n, av = .int k n := by cases h; exact ⟨_, rfl⟩
theorem row1 {l : List AV} (hl : l.length = 1) (h : ∀ j, j < 1 → Fits ([Sh.int .i64].getD j .bool) (l.getD j .any)) : ∃ a, l = [.int .i64 a] := by
  match l, hl with
  | [x], _ =>
    obtain ⟨a, ha⟩ := int_of (h 0 (by omega))
    exact ⟨a, by simpa using ha⟩
theorem row3 {l : List AV} (hl : l.length = 3) (h : ∀ j, j < 3 → Fits ([Sh.int .i64, .int .i64, .int .i64].getD j .bool) (l.getD j .any)) : ∃ x : Sample, l = x.av := by
  match l, hl with
  | [x, y, z], _ =>
    obtain ⟨a, ha⟩ := int_of (h 0 (by omega))
    obtain ⟨b, hb⟩ := int_of (h 1 (by omega))
    obtain ⟨c, hc⟩ := int_of (h 2 (by omega))
    refine ⟨⟨a, b, c⟩, ?_⟩
    simp at ha hb hc
    simp [Sample.av, ha, hb, hc]
theorem samples_of {e : TypeId} {av : AV} (h : Fits (.sl e [.int .i64, .int .i64, .int .i64]) av) : ∃ xs : List Sample, av = .sl e (xs.map Sample.av) ∧ xs.length ≤ maxLen := by
  cases h with
  | @sl _ _ l hl h1 h2 =>
    obtain ⟨xs, rfl⟩ := rows_of (f := Sample.av) (l := l) fun i hi => row3 (by rw [List.getD_eq_getElem?_getD, List.getElem?_eq_getElem hi]; exact h1 _ (List.getElem_mem _)) fun j hj => h2 i j hi hj
    exact ⟨xs, rfl, by simpa using hl⟩
theorem ints_of {e : TypeId} {av : AV} (h : Fits (.sl e [.int .i64]) av) : ∃ zs : List Int, av = .sl e (zs.map fun z => [.int .i64 z]) ∧ zs.length ≤ maxLen := by
  cases h with
  | @sl _ _ l hl h1 h2 =>
    obtain ⟨xs, rfl⟩ := rows_of (f := fun z => [AV.int .i64 z]) (l := l) fun i hi => row1 (by rw [List.getD_eq_getElem?_getD, List.getElem?_eq_getElem hi]; exact h1 _ (List.getElem_mem _)) fun j hj => h2 i j hi hj
    exact ⟨xs, rfl, by simpa using hl⟩
theorem series_of {l : List AV} (h : FitsL [.int .i64, .sl 27 [.int .i64, .int .i64, .int .i64]] l) : ∃ den xs, l = seriesL den xs := by
  obtain ⟨h1, h2⟩ := h
  match l, h1 with
  | [x, y], _ =>
    obtain ⟨d, hd⟩ := int_of (h2 0 (by simp))
    obtain ⟨xs, hx, _⟩ := samples_of (h2 1 (by simp))
    exact ⟨d, xs, by simp at hd hx; simp [seriesL, hd, hx]⟩

theorem row4 {l : List AV} (hl : l.length = 4) (h : ∀ j, j < 4 → Fits ([Sh.int .i64, .int .i64, .int .i64, .int .i64].getD j .bool) (l.getD j .any)) : ∃ x : Line, l = x.av := by
  match l, hl with
  | [x, y, z, u], _ =>
    obtain ⟨a, ha⟩ := int_of (h 0 (by omega))
    obtain ⟨b, hb⟩ := int_of (h 1 (by omega))
    obtain ⟨c, hc⟩ := int_of (h 2 (by omega))
    obtain ⟨d, hd⟩ := int_of (h 3 (by omega))
    refine ⟨⟨a, b, c, d⟩, ?_⟩
    simp at ha hb hc hd
    simp [Line.av, ha, hb, hc, hd]
theorem lines_of {e : TypeId} {av : AV} (h : Fits (.sl e [.int .i64, .int .i64, .int .i64, .int .i64]) av) : ∃ xs : List Line, av = .sl e (xs.map Line.av) ∧ xs.length ≤ maxLen := by
  cases h with
  | @sl _ _ l hl h1 h2 =>
    obtain ⟨xs, rfl⟩ := rows_of (f := Line.av) (l := l) fun i hi => row4 (by rw [List.getD_eq_getElem?_getD, List.getElem?_eq_getElem hi]; exact h1 _ (List.getElem_mem _)) fun j hj => h2 i j hi hj
    exact ⟨xs, rfl, by simpa using hl⟩
theorem cal_of {l : List AV} (h : FitsL [.int .i64, .sl 56 [.int .i64, .int .i64, .int .i64, .int .i64], .int .i64, .int .i64] l) : ∃ den ls lo hi, l = calL den ls lo hi := by
  obtain ⟨h1, h2⟩ := h
  match l, h1 with
  | [x, y, z, u], _ =>
    obtain ⟨d, hd⟩ := int_of (h2 0 (by simp))
    obtain ⟨xs, hx, _⟩ := lines_of (h2 1 (by simp))
    obtain ⟨lo, hlo⟩ := int_of (h2 2 (by simp))
    obtain ⟨hi, hhi⟩ := int_of (h2 3 (by simp))
    exact ⟨d, xs, lo, hi, by simp at hd hx hlo hhi; simp [calL, hd, hx, hlo, hhi]⟩

end Go.Proofs.Ytecdkapjjhkanaa
