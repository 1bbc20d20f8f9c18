/- A text of the proof: a verified executor of the program form, or the contracts of the functions that the law reaches. -/
import Derived.Test.YtgohgnaapbpggaaGreatDoorVH
import Derived.ChangeKeysEq
set_option linter.all false
namespace Go.Vx
open Go Go.RowKit
def tIntA(P:Program)(t n e:Nat)(k:IntKind):Bool:=(match P.underlying t with |some (.array l e')=>Nat.beq l n&&Nat.beq e' e |_=>false)&&(match P.info? e with |some i=>Nat.beq i.size 1 |none=>false)&&
  (match P.underlying e with |some (.int k')=>decide (k'=k) |_=>false)&&Nat.beq (P.cellsOf e) 1&& !P.eqGuardType P.depth t
theorem tIntA.spec{P:Program}{t n e:Nat}{k:IntKind}(h:tIntA P t n e k=true):P.underlying t=some (.array n e)∧(∃ i,P.info? e=some i)∧P.underlying e=some (.int k)∧P.cellsOf e=1∧P.eqGuardType P.depth t=false:=by
  unfold tIntA at h
  simp only [Bool.and_eq_true,Bool.not_eq_true'] at h
  obtain⟨⟨⟨⟨h1,h2⟩,h3⟩,h4⟩,h5⟩:=h
  refine⟨?_,?_,?_,Nat.eq_of_beq_eq_true h4,h5⟩
  · split at h1
    · rename_i heq
      simp only [Bool.and_eq_true] at h1
      rw [heq,Nat.eq_of_beq_eq_true h1.1,Nat.eq_of_beq_eq_true h1.2]
    · cases h1
  · split at h2
    · rename_i i heq;exact⟨i,heq⟩
    · cases h2
  · split at h3
    · rename_i heq
      simp only [decide_eq_true_iff] at h3
      rw [heq,h3]
    · cases h3
section ops
variable {c:Ctx} {ops:Array Oper} {st:St} {dst:Option Tmp} {ty:TypeId} {pos:String} {after:Array Edge}
end ops
end Go.Vx
