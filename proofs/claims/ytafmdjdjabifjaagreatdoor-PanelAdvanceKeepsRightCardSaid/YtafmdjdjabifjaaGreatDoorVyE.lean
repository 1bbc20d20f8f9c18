/- A text of the proof: a verified executor of the program form, or the contracts of the functions that the law reaches. -/
import Derived.Test.YtafmdjdjabifjaaGreatDoorVD
import Derived.Test.YtafmdjdjabifjaaGreatDoorVB
set_option linter.all false
namespace Go.Vx
open Go Go.RowKit
/-! ## Arguments, opened -/
theorem rows_of {α : Type} {f : α → List AV} : ∀ {l : List (List AV)}, (∀ i, i < l.length → ∃ x, l.getD i [] = f x) → ∃ xs : List α, l = xs.map f
  | [], _ => ⟨[], rfl⟩
  | a :: l, h => by
    obtain ⟨x, hx⟩ := h 0 (by simp)
    obtain ⟨xs, hxs⟩ := rows_of (l := l) (fun i hi => by simpa using h (i + 1) (by simpa using hi))
    exact ⟨x :: xs, by simp at hx; simp [hx, hxs]⟩
theorem int_of {k : IntKind} {av : AV} (h : Fits (.int k) av) : ∃ n, av = .int k n := by cases h; exact ⟨_, rfl⟩
theorem bool_of {av : AV} (h : Fits .bool av) : ∃ n, av = .bool n := by cases h; exact ⟨_, rfl⟩
theorem str_of {av : AV} (h : Fits .str av) : ∃ n : Str, av = .str n := by cases h; exact ⟨_, rfl⟩
theorem sl_of {α : Type} {f : α → List AV} {e : TypeId} {ss : List Sh} {av : AV} (H : ∀ l, FitsL ss l → ∃ x, l = f x) (h : Fits (.sl e ss) av) : ∃ xs : List α, av = .sl e (xs.map f) := by
  cases h with
  | @sl _ _ l hl h1 h2 =>
    obtain ⟨xs, rfl⟩ := rows_of (f := f) (l := l) fun i hi => H _ ⟨by rw [List.getD_eq_getElem?_getD, List.getElem?_eq_getElem hi]; exact h1 _ (List.getElem_mem _), fun j hj => h2 i j hi hj⟩
    exact ⟨xs, rfl⟩
theorem sl_ofL {α : Type} {f : α → List AV} {e : TypeId} {ss : List Sh} {av : AV} (H : ∀ l, FitsL ss l → ∃ x, l = f x) (h : Fits (.sl e ss) av) : ∃ xs : List α, xs.length ≤ 9223372036854775807 ∧ av = .sl e (xs.map f) := by
  obtain ⟨xs, rfl⟩ := sl_of H h
  refine ⟨xs, ?_, rfl⟩
  cases h with
  | @sl _ _ l hl h1 h2 => simpa [maxLen] using hl
theorem var_heap {P : Program} {w : World} {name : String} {g : Nat} {cs : Array Value} (hg : P.globalNamed name = some g) (hv : w.var? P name = some cs) : ∃ e fr, w.heap[g]? = some (.cells cs e fr) := by
  unfold World.var? at hv
  rw [hg] at hv
  simp only [Option.bind_some] at hv
  split at hv
  · rename_i h; cases hv; exact ⟨_, _, h⟩
  · cases hv
theorem heap_lt {w : World} {g : Nat} {o : Obj} (h : w.heap[g]? = some o) : g < w.heap.size := (Array.getElem?_eq_some_iff.1 h).1
end Go.Vx
