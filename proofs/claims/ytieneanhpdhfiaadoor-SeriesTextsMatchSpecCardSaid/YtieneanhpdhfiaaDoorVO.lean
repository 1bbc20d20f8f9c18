/- A text of the proof: a verified executor of the program form, or the contracts of the functions that the law reaches. -/
import Derived.Test.YtieneanhpdhfiaaDoorVN
import Derived.Shelf.Strings.FuncGrows
set_option linter.all false
namespace Go.Vx
open Go Go.RowKit Go.Proofs

theorem GlOK.later {gl : Gl} {w w' : World} {A : Nat → Prop} (h : GlOK gl w A []) (hb : Below w.heap.size w w') : GlOK gl w' A [] := by
  refine ⟨Nat.le_trans h.len hb.size, (fun b hb => by cases hb), fun p hp => ?_⟩
  obtain ⟨h1, ⟨e, fr, h2⟩, h3⟩ := h.tab p hp
  exact ⟨h1, ⟨e, fr, (hb.block p.1 (Array.getElem?_eq_some_iff.1 h2).1).trans h2⟩, h3⟩

end Go.Vx

namespace Go.Vx
open Go Go.RowKit
def tPtr (P : Program) (t : TypeId) : Bool := match P.underlying t with | some (.pointer _) => true | _ => false
theorem tPtr.spec {P : Program} {t : TypeId} (h : tPtr P t = true) : ∃ e, P.underlying t = some (.pointer e) := by
  unfold tPtr at h
  split at h
  · rename_i e he; exact ⟨e, he⟩
  · cases h
section ops
variable {c : Ctx} {ops : Array Oper} {st : St} {dst : Option Tmp} {ty : TypeId} {pos : String} {after : Array Edge} {x y : Operand} {t u : Nat}
end ops
end Go.Vx

namespace Go.Vx
open Go Go.RowKit
def At (row : List AV) (o n : Nat) (sub : List AV) : Prop := (row.drop o).take n = sub ∧ o + n ≤ row.length
def Put (row : List AV) (o : Nat) (l row' : List AV) : Prop := row.take o ++ (l ++ row.drop (o + l.length)) = row'

theorem Zf9 {row sub : List AV} {o n : Nat} (h : At row o n sub) : sub.length = n := by
  obtain ⟨h1, h2⟩ := h; rw [← h1]; simp; omega
theorem Zek {row sub sub' : List AV} {o n o' n' : Nat} (h : At row o n sub) (k : At sub o' n' sub') : At row (o + o') n' sub' := by
  have hl := Zf9 h
  obtain ⟨h1, h2⟩ := h
  obtain ⟨k1, k2⟩ := k
  refine ⟨?_, by omega⟩
  rw [← k1, ← h1, List.drop_take, List.take_take, List.drop_drop, Nat.min_eq_left (by omega)]
theorem Zdq {row : List AV} {o : Nat} {v : AV} (h : At row o 1 [v]) : row[o]? = some v := by
  obtain ⟨h1, h2⟩ := h
  have : (row.drop o)[0]? = some v := by
    have h3 := congrArg (·[0]?) h1
    simpa using h3
  simpa using this
theorem ZeZ {row sub : List AV} {o n : Nat} (h : At row o n sub) : (row.drop o).take n = sub := h.1
theorem ZaJ {row : List AV} {n : Nat} (h : row.length = n) : At row 0 n row := ⟨by simp [← h], by omega⟩
theorem Zfb {row l : List AV} (h : row.length = l.length) : Put row 0 l l := by simp [Put, h]
theorem Zf2 {row sub l : List AV} {o n : Nat} (h : At row o n sub) (hl : l.length = n) : o + l.length ≤ row.length := by rw [hl]; exact h.2

def Hd (row : List AV) (n : Nat) (sub : List AV) : Prop := row.take n = sub ∧ n ≤ row.length
theorem hd0 {t : List AV} : Hd t 0 [] := ⟨rfl, Nat.zero_le _⟩
theorem hdl {A : List AV} {m : Nat} (hA : A.length = m) : Hd A m A := ⟨by simp [← hA], by omega⟩
theorem at0 {row s : List AV} {n : Nat} (h : Hd row n s) : At row 0 n s := ⟨by simpa using h.1, by simpa using h.2⟩
section vec
variable {α : Type} {n : Nat} {v : Vector α n} {f : α → AV} {R : α → List AV} {z : Int} {u : α}
theorem Zez (h : Za4 v z = some u) : At (v.toList.map f) (z.toNat * 1) 1 [f u] := by
  obtain ⟨_, h2, h3⟩ := ZaK h
  refine ⟨?_, by simp; omega⟩
  rw [Nat.mul_one]
  have hlt : z.toNat < (v.toList.map f).length := by simpa using h2
  rw [List.drop_eq_getElem_cons hlt]
  simp [List.getElem?_eq_some_iff.1 h3 |>.2]
theorem ZcK (h : ∀ x, (R x).all datB = true) : (v.toList.flatMap R).all datB = true := by
  rw [List.all_eq_true]; intro x hx; obtain ⟨y, _, hy⟩ := List.mem_flatMap.1 hx; exact List.all_eq_true.1 (h y) x hy
end vec

theorem alN {p : AV → Bool} : ([] : List AV).all p = true := rfl
theorem alC {p : AV → Bool} {x : AV} {t : List AV} (h : p x = true) (k : t.all p = true) : (x :: t).all p = true := by simp only [List.all_cons, h, k, Bool.and_self]
theorem alA {p : AV → Bool} {A t : List AV} (h : A.all p = true) (k : t.all p = true) : (A ++ t).all p = true := by simp only [List.all_append, h, k, Bool.and_self]
theorem rla {q : Rw} {A A' l m : List AV} (h : ZbE q A A') (k : ZbE q l m) : ZbE q (A ++ l) (A' ++ m) := by
  refine ⟨by simp [h.1, k.1], fun i hi => ?_⟩
  by_cases c : i < A.length
  · have c' : i < A'.length := by rw [← h.1]; exact c
    have := h.2 i c
    simpa [List.getD_eq_getElem?_getD, List.getElem?_append_left c, List.getElem?_append_left c'] using this
  · have h1 := h.1
    have := k.2 (i - A.length) (by simp at hi; omega)
    rw [List.getD_eq_getElem?_getD, List.getElem?_append_right (by omega), List.getD_eq_getElem?_getD, List.getElem?_append_right (by omega), ← h1]
    simpa [List.getD_eq_getElem?_getD] using this
end Go.Vx

namespace Go.Vx
open Go Go.RowKit
section
variable {c : Ctx} {ops : Array Oper} {st : St} {dst : Option Tmp} {ty : TypeId} {pos : String} {after : Array Edge}
end
end Go.Vx
