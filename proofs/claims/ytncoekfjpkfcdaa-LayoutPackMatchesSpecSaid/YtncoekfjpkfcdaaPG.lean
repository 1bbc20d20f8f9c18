/- A text of the proof: a verified executor of the program form, or the contracts of the functions that the law reaches. -/
import Derived.Test.YtncoekfjpkfcdaaPuL14
set_option linter.all false
namespace Go.Vx
open Go Go.RowKit
def chunk (l : Vector (List Int) 16) (q : api_Place) : Nat := datN l q / 2 ^ q.Low.toNat % 2 ^ q.Bits.toNat
end Go.Vx

namespace Go.Vx
open Go Go.RowKit
theorem findL_none_iff {α ε : Type} {g : α → Option ε} : ∀ {xs : List α}, findL g xs = none ↔ ∀ x ∈ xs, g x = none
  | [] => by simp [findL]
  | x :: xs => by
    simp only [findL]
    cases hg : g x with
    | some e => simp [hg]
    | none =>
      simp only [List.mem_cons, forall_eq_or_imp, hg, true_and]
      exact findL_none_iff
theorem gD_none {l : Vector (List Int) 16} (h : DatOK l) : findL gD l.toList = none := by
  rw [findL_none_iff]
  intro x hx
  obtain ⟨h1, h2⟩ := h x hx
  unfold gD
  rw [if_pos h1, if_neg]
  intro ha
  obtain ⟨d, hd, hn⟩ := List.any_eq_true.1 ha
  have := wi_iff.2 (h2 d hd)
  rw [this] at hn; cases hn
end Go.Vx
