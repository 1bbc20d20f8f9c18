/- A text of the proof: a verified executor of the program form, or the contracts of the functions that the law reaches. -/
import Derived.Test.YtafmdjdjabifjaaGreatDoorVyE
import Derived.Test.YtafmdjdjabifjaaGreatDoorShT
set_option linter.all false
namespace Go.Vx
open Go Go.RowKit
def wfI (k : IntKind) (n : Int) : Prop := (Lit.int k n).wf = true
def wfT (_ : Bool) : Prop := True
def wfS (s : Str) : Prop := s.length ≤ 9223372036854775807
def wfL {α : Type} (p : α → Prop) (l : List α) : Prop := l.length ≤ 9223372036854775807 ∧ ∀ x ∈ l, p x
theorem rows_ofW {α : Type} {f : α → List AV} {p : α → Prop} : ∀ {l : List (List AV)}, (∀ i, i < l.length → ∃ x, p x ∧ l.getD i [] = f x) → ∃ xs : List α, (∀ x ∈ xs, p x) ∧ l = xs.map f
  | [], _ => ⟨[], (fun _ h => by cases h), rfl⟩
  | a :: l, h => by
    obtain ⟨x, hp, hx⟩ := h 0 (by simp)
    obtain ⟨xs, hps, hxs⟩ := rows_ofW (l := l) (fun i hi => by simpa using h (i + 1) (by simpa using hi))
    refine ⟨x :: xs, fun y hy => ?_, by simp at hx; simp [hx, hxs]⟩
    rcases List.mem_cons.1 hy with rfl | hy
    · exact hp
    · exact hps y hy
theorem int_ofW {k : IntKind} {av : AV} (h : Fits (.int k) av) : ∃ n, wfI k n ∧ av = .int k n := by
  cases h with
  | int hw => exact ⟨_, hw, rfl⟩
theorem bool_ofW {av : AV} (h : Fits .bool av) : ∃ n, wfT n ∧ av = .bool n := by cases h; exact ⟨_, trivial, rfl⟩
theorem str_ofW {av : AV} (h : Fits .str av) : ∃ n : Str, wfS n ∧ av = .str n := by
  cases h with
  | str hl => exact ⟨_, by simpa [maxLen, wfS] using hl, rfl⟩
theorem sl_ofW {α : Type} {f : α → List AV} {p : α → Prop} {e : TypeId} {ss : List Sh} {av : AV} (H : ∀ l, FitsL ss l → ∃ x, p x ∧ l = f x) (h : Fits (.sl e ss) av) : ∃ xs : List α, wfL p xs ∧ av = .sl e (xs.map f) := by
  cases h with
  | @sl _ _ l hl h1 h2 =>
    obtain ⟨xs, hp, rfl⟩ := rows_ofW (f := f) (p := p) (l := l) fun i hi => H _ ⟨by rw [List.getD_eq_getElem?_getD, List.getElem?_eq_getElem hi]; exact h1 _ (List.getElem_mem _), fun j hj => h2 i j hi hj⟩
    exact ⟨xs, ⟨by simpa [maxLen] using hl, hp⟩, rfl⟩
end Go.Vx

namespace Go.Vx
open Go Go.RowKit
def wf_api_Sample (x : api_Sample) : Prop := (wfI .i64) x.At ∧ (wfI .i64) x.N ∧ (wfI .i64) x.Mark ∧ True
def wf_api_Series (x : api_Series) : Prop := (wfI .i64) x.Den ∧ (wfL wf_api_Sample) x.Samples ∧ True
def wf_api_Track (x : api_Track) : Prop := wfS x.Name ∧ wf_api_Series x.Series ∧ (wfI .i64) x.Long ∧ True
def wf_api_Zone (x : api_Zone) : Prop := (wfI .i64) x.From ∧ (wfI .i64) x.To ∧ wfS x.Name ∧ True
def wf_api_Instrument (x : api_Instrument) : Prop := (wfI .i64) x.Kind ∧ wfS x.Name ∧ wfS x.Track ∧ (wfI .i64) x.Places ∧ (wfI .i64) x.Low ∧ (wfI .i64) x.High ∧ (wfI .i64) x.Steps ∧ (wfL wf_api_Zone) x.Zones ∧ (wfI .i64) x.Op ∧ (wfI .i64) x.N ∧ wfT x.Latch ∧ (wfI .i64) x.Size ∧ True
def wf_api_Panel (x : api_Panel) : Prop := (wfL wf_api_Instrument) x.Instruments ∧ True
end Go.Vx
