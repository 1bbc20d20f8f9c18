/- A text of the proof: a verified executor of the program form, or the contracts of the functions that the law reaches. -/
import Derived.Test.YtecdkapjjhkanaaDoorVxS
import Derived.Laws.Externs
set_option linter.all false
namespace Go.Vx
open Go Go.RowKit
/-- A function that the model itself answers: it leaves the world alone. -/
structure ESpec (P : Program) (f : FuncId) (args : List AV) (res : AV) : Prop where
  run : ∀ (M : Nat → Prop) (w : World) (vals : Array Value), vals.size = args.length → (∀ i, i < args.length → RelD P w M (args.getD i .any) (vals.getD i undef)) →
    ∃ v, (callFunc f vals).run P w = .ok (.value v) w ∧ RelD P w M res v
section
variable {c : Ctx} {ops : Array Oper} {st : St} {dst : Option Tmp} {ty : TypeId} {pos : String} {after : Array Edge}
theorem v_callE {f : FuncId} {xs : List Operand} {ts : Array TypeId} {ds : List AV} {res : AV} (hs : ESpec c.P f ds res) (ha : ArgsD c st xs ds) :
    SVal c ops st ⟨dst, .call { callee := .value (.func f), args := xs.toArray, argTypes := ts }, ty, pos, after, none⟩ res :=
  .pure rfl fun φ a w hc => by
    obtain ⟨hl, hr⟩ := ha.rel hc
    obtain ⟨v, h1, h2⟩ := hs.run (Mut c.A φ st.hp) w (xs.map a.eval).toArray (by simpa using hl) (fun i hi => by simpa [Array.getD_eq_getD_getElem?, List.getD_eq_getElem?_getD] using hr i hi)
    refine ⟨v, ?_, relF_data h2⟩
    simp [execOp, resolve, Act.eval, Deferred.ofValue, invoke, h1]
end
end Go.Vx
