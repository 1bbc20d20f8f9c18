/- A text of the proof: a verified executor of the program form, or the contracts of the functions that the law reaches. -/
import Derived.Test.YtncoekfjpkfcdaaPF
import Derived.Test.YtncoekfjpkfcdaaVyL
set_option linter.all false
namespace Go.Vx
open Go Go.RowKit
def datN (l : Vector (List Int) 16) (q : api_Place) : Nat := ((l.toList.getD q.Frame.toNat []).getD (q.Word - 3).toNat 0).toNat
def DatOK (l : Vector (List Int) 16) : Prop := ∀ x ∈ l.toList, x.length = 58 ∧ ∀ d ∈ x, 0 ≤ d ∧ d ≤ 2047
def placeR (q : api_Place) : Prop := (0 ≤ q.Frame ∧ q.Frame ≤ 15) ∧ (4 ≤ q.Word ∧ q.Word ≤ 60) ∧ (0 ≤ q.Low ∧ q.Low ≤ 10) ∧ 1 ≤ q.Bits ∧ q.Bits ≤ 11 - q.Low
theorem dat_s {l : Vector (List Int) 16} (hl : DatOK l) {q : api_Place} (hq : placeR q) : ∃ x, vidx l q.Frame = some x ∧ idx x (i64 (q.Word - 3)) = some (datN l q : Int) ∧ datN l q ≤ 2047 := by
  obtain ⟨h1, h2, _⟩ := hq
  have h16 : l.toList.length = 16 := by simp
  obtain ⟨x, hx⟩ := get_ex (xs := l.toList) (k := q.Frame.toNat) (by omega)
  obtain ⟨hx1, hx2⟩ := hl x (List.mem_of_getElem? hx)
  obtain ⟨d, hd⟩ := get_ex (xs := x) (k := (q.Word - 3).toNat) (by omega)
  have hd2 := hx2 d (List.mem_of_getElem? hd)
  have e1 : l.toList.getD q.Frame.toNat [] = x := by rw [List.getD_eq_getElem?_getD, hx]; rfl
  have e2 : x.getD (q.Word - 3).toNat 0 = d := by rw [List.getD_eq_getElem?_getD, hd]; rfl
  have e3 : ((datN l q : Nat) : Int) = d := by unfold datN; rw [e1, e2]; omega
  refine ⟨x, ?_, ?_, by omega⟩
  · unfold vidx; rw [if_pos h1.1, hx]
  · rw [i64s (by omega) (by omega), e3]; unfold idx; rw [if_pos (by omega), hd]
end Go.Vx
