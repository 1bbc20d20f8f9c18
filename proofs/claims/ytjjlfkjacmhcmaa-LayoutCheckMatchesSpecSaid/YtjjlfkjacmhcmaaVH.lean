/- A text of the proof: a verified executor of the program form, or the contracts of the functions that the law reaches. -/
import Derived.Test.YtjjlfkjacmhcmaaVG
import Derived.Shelf.Strconv.Itoa1
import Derived.Laws.BytesString
import Derived.Laws.Cells
import Derived.Test.YtjjlfkjacmhcmaaVC
set_option linter.all false
namespace Go.Vx
open Go Go.RowKit Go.Lib
theorem Zmu {vals : Array Value} (h : vals.size = 2) : vals = #[vals.getD 0 undef, vals.getD 1 undef] := by
  obtain ⟨l⟩ := vals
  match l, h with
  | [a, b], _ => rfl
section ops
variable {c : Ctx} {ops : Array Oper} {st : St} {dst : Option Tmp} {ty : TypeId} {pos : String} {after : Array Edge}
end ops
end Go.Vx
namespace Go.Vx
open Go Go.RowKit Go.Lib
section ops
variable {c : Ctx} {ops : Array Oper} {st : St} {dst : Option Tmp} {ty : TypeId} {pos : String} {after : Array Edge}
end ops
end Go.Vx

namespace Go.Vx
open Go Go.RowKit
end Go.Vx

namespace Go.Vx
open Go Go.RowKit
def wfI (k : IntKind) (n : Int) : Prop := (Lit.int k n).wf = true
def wfS (s : Str) : Prop := s.length ≤ 9223372036854775807
def wfL {α : Type} (p : α → Prop) (l : List α) : Prop := l.length ≤ 9223372036854775807 ∧ ∀ x ∈ l, p x
theorem Zh3 {α : Type} {f : α → List AV} {p : α → Prop} : ∀ {l : List (List AV)}, (∀ i, i < l.length → ∃ x, p x ∧ l.getD i [] = f x) → ∃ xs : List α, (∀ x ∈ xs, p x) ∧ l = xs.map f
  | [], _ => ⟨[], (fun _ h => by cases h), rfl⟩
  | a :: l, h => by
    obtain ⟨x, hp, hx⟩ := h 0 (by simp)
    obtain ⟨xs, hps, hxs⟩ := Zh3 (l := l) (fun i hi => by simpa using h (i + 1) (by simpa using hi))
    refine ⟨x :: xs, fun y hy => ?_, by simp at hx; simp [hx, hxs]⟩
    rcases List.mem_cons.1 hy with rfl | hy
    · exact hp
    · exact hps y hy
theorem Zbo {k : IntKind} {av : AV} (h : Fits (.int k) av) : ∃ n, wfI k n ∧ av = .int k n := by
  cases h with
  | int hw => exact ⟨_, hw, rfl⟩
theorem ZiF {av : AV} (h : Fits .str av) : ∃ n : Str, wfS n ∧ av = .str n := by
  cases h with
  | str hl => exact ⟨_, by simpa [maxLen, wfS] using hl, rfl⟩
theorem Zh9 {α : Type} {f : α → List AV} {p : α → Prop} {e : TypeId} {ss : List Sh} {av : AV} (H : ∀ l, Zdw ss l → ∃ x, p x ∧ l = f x) (h : Fits (.sl e ss) av) : ∃ xs : List α, wfL p xs ∧ av = .sl e (xs.map f) := by
  cases h with
  | @sl _ _ l hl h1 h2 =>
    obtain ⟨xs, hp, rfl⟩ := Zh3 (f := f) (p := p) (l := l) fun i hi => H _ ⟨by rw [List.getD_eq_getElem?_getD, List.getElem?_eq_getElem hi]; exact h1 _ (List.getElem_mem _), fun j hj => h2 i j hi hj⟩
    exact ⟨xs, ⟨by simpa [maxLen] using hl, hp⟩, rfl⟩
end Go.Vx

namespace Go.Vx
open Go Go.RowKit Go.Lib
section ops
variable {c : Ctx} {ops : Array Oper} {st : St} {dst : Option Tmp} {ty : TypeId} {pos : String} {after : Array Edge}
end ops
end Go.Vx
