/- A text of the proof: a verified executor of the program form, or the contracts of the functions that the law reaches. -/
import Derived.Test.YtciaeohnkfnamaaDoorVJ
import Derived.Laws.MakeOwn
set_option linter.all false
namespace Go.Vx
open Go Go.RowKit
inductive ZR : List AV → List Value → Prop
  | nil : ZR [] []
  | c {v : Value} {l : List AV} {vs : List Value} : ZR l vs → ZR (constAV v :: l) (v :: vs)
  | s {e : TypeId} {l : List AV} {vs : List Value} : ZR l vs → ZR (.sl e [] :: l) (.slice none 0 0 :: vs)
theorem ZR.rel {P : Program} {w : World} {M : Nat → Prop} {l : List AV} {vs : List Value} (h : ZR l vs) : l.length = vs.length ∧ ∀ j, j < vs.length → RelD P w M (l.getD j .any) (vs.getD j undef) := by
  induction h with
  | nil => exact ⟨rfl, fun j hj => by simp at hj⟩
  | c _ ih =>
    refine ⟨by simp [ih.1], fun j hj => ?_⟩
    cases j with
    | zero => exact constAV_rel _ _ _ _
    | succ j => exact ih.2 j (by simpa using hj)
  | s _ ih =>
    refine ⟨by simp [ih.1], fun j hj => ?_⟩
    cases j with
    | zero => exact .sl0 _ _ _
    | succ j => exact ih.2 j (by simpa using hj)
section
variable {c : Ctx} {ops : Array Oper} {st : St} {dst : Option Tmp} {ty : TypeId} {pos : String} {after : Array Edge}
end
end Go.Vx

namespace Go.Vx
open Go Go.RowKit
section
variable {c : Ctx} {ops : Array Oper} {rest : List Oper} {st : St} {K : Exit → St → Prop}
end
section draw
variable {cw : Md} {c : Ctx} {ops : Array Oper} {st : St} {m : Nat} {K : Exit → St → Prop}
end draw
end Go.Vx
