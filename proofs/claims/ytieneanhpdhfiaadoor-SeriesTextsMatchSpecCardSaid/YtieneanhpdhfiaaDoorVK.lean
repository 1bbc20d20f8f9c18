/- A text of the proof: a verified executor of the program form, or the contracts of the functions that the law reaches. -/
import Derived.Test.YtieneanhpdhfiaaDoorVJ
import Derived.Laws.MakeOwn
set_option linter.all false
namespace Go.Vx
open Go Go.RowKit
inductive ZR : List AV → List Value → Prop
  | nil : ZR [] []
  | c {v : Value} {l : List AV} {vs : List Value} : ZR l vs → ZR (constAV v :: l) (v :: vs)
  | s {e : TypeId} {l : List AV} {vs : List Value} : ZR l vs → ZR (.sl e [] :: l) (.slice none 0 0 :: vs)
theorem ZR.rel {P : Program} {w : World} {M : Nat → Prop} {l : List AV} {vs : List Value} (h : ZR l vs) : l.length = vs.length ∧ ∀ j, j < vs.length → RelD P w M (l.getD j .any) (vs.getD j undef) := by
  induction h with
  | nil => exact ⟨rfl, fun j hj => by simp at hj⟩
  | c _ ih =>
    refine ⟨by simp [ih.1], fun j hj => ?_⟩
    cases j with
    | zero => exact Xr _ _ _ _
    | succ j => exact ih.2 j (by simpa using hj)
  | s _ ih =>
    refine ⟨by simp [ih.1], fun j hj => ?_⟩
    cases j with
    | zero => exact .sl0 _ _ _
    | succ j => exact ih.2 j (by simpa using hj)
section
variable {c : Ctx} {ops : Array Oper} {st : St} {dst : Option Tmp} {ty : TypeId} {pos : String} {after : Array Edge}
end
end Go.Vx

namespace Go.Vx
open Go Go.RowKit
section
variable {c : Ctx} {ops : Array Oper} {rest : List Oper} {st : St} {K : Exit → St → Prop}
end
section draw
variable {cw : Md} {c : Ctx} {ops : Array Oper} {st : St} {m : Nat} {K : Exit → St → Prop}
theorem ZfJ (i j : Nat) {o o' : Oper} {v v' : AV} {hp2 : List (Option Own)} (ho : ops[i]? = some o) (ho' : ops[j]? = some o') (ht : ZeB ops m i j = true) (hd : dstLt o.dst c.nt = true) (hd' : dstLt o'.dst c.nt = true) (hn : noWrite cw.cw o.op = true) (hn' : noWrite cw.cw o'.op = false)
    (hx' : extOp o'.op = true → Ext st.hp hp2) (hy' : cw.fr = true → ExtW cw.wl cw.base hp2)
    (h : SVal c ops ⟨restr st.tm (o.looksAt ops), st.hp⟩ o v) (h' : WVal c ops ⟨restr st.tm (o'.looksAt ops), st.hp⟩ o' v' hp2)
    (k : Dv cw c ops (KE c K) (setBit m i) (st.puto o.dst v)) (k' : Dv cw c ops (KE c K) (setBit m j) (St.puto ⟨st.tm, hp2⟩ o'.dst v')) : Dv cw c ops (KE c K) m st := by
  unfold ZeB at ht
  simp only [Bool.and_eq_true] at ht
  obtain ⟨⟨⟨h1, h2⟩, h3⟩, h4⟩ := ht
  have only : ∀ k, k < ops.size → readyAt ops m k = true → k = i ∨ k = j := fun k hk hr => by
    have := List.all_eq_true.1 h4 k (List.mem_range.2 hk)
    rw [hr] at this
    simp only [Bool.not_true, Bool.or_false, Bool.or_eq_true] at this
    rcases this with h | h
    · exact .inl (Nat.eq_of_beq_eq_true h)
    · exact .inr (Nat.eq_of_beq_eq_true h)
  refine .branch (fun k => if k = i then st.puto o.dst v else St.puto ⟨st.tm, hp2⟩ o'.dst v') ⟨i, by simpa using h2, h1⟩ (fun q hq hr => ?_) (fun q hq hr => ?_)
  · by_cases hqi : q = i
    · subst hqi; rw [if_pos rfl]; exact .q0 ho ⟨hd, hn, h⟩
    · rcases only q hq hr with rfl | rfl
      · exact absurd rfl hqi
      · rw [if_neg hqi]; exact .w ho' ⟨hd', hn', hx', hy', h'⟩
  · by_cases hqi : q = i
    · subst hqi; rw [if_pos rfl]; exact k
    · rcases only q hq hr with rfl | rfl
      · exact absurd rfl hqi
      · rw [if_neg hqi]; exact k'
end draw
end Go.Vx
