/- A text of the proof: a verified executor of the program form, or the contracts of the functions that the law reaches. -/
import Derived.Test.YtieneanhpdhfiaaDoorVH
import Derived.OpenShut
import Derived.Test.YtieneanhpdhfiaaDoorVO
set_option linter.all false
namespace Go.Vx
open Go Go.RowKit Go.ChangeShapes Go.WideShapes
section
variable {H : Type} {enc : TypeId × Value → H} {P : Program} {w : World} {base : Nat} {spare : Nat → Bool} {held : Bool}
end
end Go.Vx

namespace Go.Vx
open Go Go.RowKit
end Go.Vx

namespace Go.Vx
open Go Go.RowKit
def szT (P : Program) (t n : Nat) : Bool := match P.info? t with | some i => Nat.beq i.size n | none => false
theorem szT.spec {P : Program} {t n : Nat} (h : szT P t n = true) : ∃ i, P.info? t = some i ∧ i.size = n := by
  unfold szT at h
  split at h
  · rename_i i hi; exact ⟨i, hi, Nat.eq_of_beq_eq_true h⟩
  · cases h
section ops
variable {c : Ctx} {ops : Array Oper} {st : St} {dst : Option Tmp} {ty : TypeId} {pos : String} {after : Array Edge}
end ops
end Go.Vx

namespace Go.Vx
open Go Go.RowKit
section
variable {c : Ctx} {ops : Array Oper} {st : St} {dst : Option Tmp} {ty : TypeId} {pos : String} {after : Array Edge}
end
end Go.Vx
namespace Go.Vx
end Go.Vx

namespace Go.Vx
open Go Go.RowKit
section draw
variable {cw : Md} {c : Ctx} {ops : Array Oper} {st : St} {m : Nat} {K : Exit → St → Prop}
inductive Br (cw : Md) (c : Ctx) (ops : Array Oper) (K : Exit → St → Prop) (m : Nat) (st : St) : List Nat → Prop
  | nil : Br cw c ops K m st []
  | w {i : Nat} {o : Oper} {v : AV} {hp' : List (Option Own)} {l : List Nat} : ops[i]? = some o → dstLt o.dst c.nt = true → noWrite cw.cw o.op = false → (extOp o.op = true → Ext st.hp hp') → (cw.fr = true → ExtW cw.wl cw.base hp') →
      WVal c ops ⟨restr st.tm (o.looksAt ops), st.hp⟩ o v hp' → Dv cw c ops (KE c K) (setBit m i) (St.puto ⟨st.tm, hp'⟩ o.dst v) → Br cw c ops K m st l → Br cw c ops K m st (i :: l)
  | q {i : Nat} {o : Oper} {v : AV} {l : List Nat} : ops[i]? = some o → dstLt o.dst c.nt = true → noWrite cw.cw o.op = true →
      SVal c ops ⟨restr st.tm (o.looksAt ops), st.hp⟩ o v → Dv cw c ops (KE c K) (setBit m i) (st.puto o.dst v) → Br cw c ops K m st l → Br cw c ops K m st (i :: l)
theorem Br.get {l : List Nat} (h : Br cw c ops K m st l) : ∀ i, l.contains i = true → ∃ st', SStep cw c ops i st st' ∧ Dv cw c ops (KE c K) (setBit m i) st' := by
  induction h with
  | nil => intro i hi; cases hi
  | @w j o v hp' l ho hd hn hx hy hw k _ ih =>
    intro i hi
    by_cases e : i = j
    · subst e; exact ⟨_, .w ho ⟨hd, hn, hx, hy, hw⟩, k⟩
    · exact ih i (by simpa [List.contains_cons, e] using hi)
  | @q j o v l ho hd hn hw k _ ih =>
    intro i hi
    by_cases e : i = j
    · subst e; exact ⟨_, .q0 ho ⟨hd, hn, hw⟩, k⟩
    · exact ih i (by simpa [List.contains_cons, e] using hi)
end draw
end Go.Vx

namespace Go.Vx
open Go Go.RowKit

end Go.Vx

namespace Go.Vx
open Go Go.RowKit

section
variable {α : Type} {e : TypeId} {R : α → List AV} {m : List (Int × List α)} {k : Int} {xs ys : List α} {fk : Int → AV}

end

section ops
variable {c : Ctx} {ops : Array Oper} {st : St} {dst : Option Tmp} {ty : TypeId} {pos : String} {after : Array Edge}
end ops
end Go.Vx
