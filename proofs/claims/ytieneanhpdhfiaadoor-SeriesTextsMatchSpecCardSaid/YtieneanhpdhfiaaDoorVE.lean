/- A text of the proof: a verified executor of the program form, or the contracts of the functions that the law reaches. -/
import Derived.Test.YtieneanhpdhfiaaDoorVD
set_option linter.all false
namespace Go.Vx
open Go Go.RowKit

def Za4 {α : Type} {n : Nat} (v : Vector α n) (i : Int) : Option α := if 0 ≤ i then v.toList[i.toNat]? else none
theorem ZaK {α : Type} {n : Nat} {v : Vector α n} {i : Int} {x : α} (h : Za4 v i = some x) : i = (i.toNat : Int) ∧ i.toNat < n ∧ v.toList[i.toNat]? = some x := by
  unfold Za4 at h
  split at h
  · have := (List.getElem?_eq_some_iff.1 h).1
    simp at this
    exact ⟨by omega, this, h⟩
  · cases h
section
variable {α : Type} {n : Nat} {v : Vector α n} {f : α → AV} {z : Int} {u : α}
theorem arL : (v.toList.map f).length = n := by simp
theorem arD (h : ∀ x, datB (f x) = true) : (v.toList.map f).all datB = true := by simp [List.all_eq_true, h]
theorem arC (h : ∀ x, c1B (f x) = true) : (v.toList.map f).all c1B = true := by simp [List.all_eq_true, h]
end

section ops
variable {c : Ctx} {ops : Array Oper} {st : St} {dst : Option Tmp} {ty : TypeId} {pos : String} {after : Array Edge}
theorem Zdk {α : Type} {m : Nat} {v : Vector α m} {x y : Operand} {t e n o : Nat} {k : IntKind} {z : Int} {cells : List AV} {u : α} (h : Opv c st x (.rp cells o)) (hy : Opv c st y (.int k z)) (ht : tArr c.P t m e n = true)
    (hx : Za4 v z = some u) : SVal c ops st ⟨dst, .indexAddr t x y, ty, pos, after, none⟩ (.rp cells (o + z.toNat * n)) := by
  obtain ⟨h1, h2, _⟩ := ZaK hx
  exact Zgl h hy ht h1 h2
theorem ZaA {α : Type} {n : Nat} {v : Vector α n} {f : α → AV} {x y : Operand} {t e : Nat} {k : IntKind} {z : Int} {u : α} (h : Opv c st x (.agg (v.toList.map f))) (hy : Opv c st y (.int k z)) (ht : tArr c.P t n e 1 = true) (he : tScal c.P e = true)
    (hx : Za4 v z = some u) : SVal c ops st ⟨dst, .index t x y, ty, pos, after, none⟩ (f u) := by
  obtain ⟨h1, h2, h3⟩ := ZaK hx
  exact Zen h hy ht he h1 h2 (by simp [h3])
end ops
end Go.Vx
