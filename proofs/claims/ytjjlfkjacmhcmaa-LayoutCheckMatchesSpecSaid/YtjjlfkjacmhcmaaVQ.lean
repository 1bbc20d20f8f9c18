/- A text of the proof: a verified executor of the program form, or the contracts of the functions that the law reaches. -/
import Derived.Test.YtjjlfkjacmhcmaaVP
import Derived.RangeFuncLeaves
import Derived.RangeFuncRecord
import Derived.RangeFuncSeq
set_option linter.all false

namespace Go.Vx
open Go Go.RowKit

section
variable {ro : Option Nat} {c : Ctx} {ops : Array Oper} {o : Oper} {rest : List Oper} {st : St} {K : Exit → St → Prop}
def notDefer : Op → Bool
  | .defer _ => false
  | _ => true
theorem notDefer.spec {o : Oper} (h : notDefer o.op = true) : ∀ c, o.op ≠ .defer c := fun c e => by rw [e] at h; cases h
end
theorem YieldAt.mono {F : Fence} {m : Nat} {P : Program} {l : Nat} {args : Array Value} {W : World} {R R' : Ending → World → Prop} (h : YieldAt F m P l args W R) (hr : ∀ e w', R e w' → R' e w') : YieldAt F m P l args W R' :=
  let ⟨fn, tmps, assign, body, h1, h2⟩ := h; ⟨fn, tmps, assign, body, h1, h2.mono hr⟩

section
variable {c : Ctx} {ops : Array Oper} {st : St} {K : Exit → St → Prop} {dst : Option Tmp} {ty : TypeId} {pos : String} {after : Array Edge} {g : Option (Nat × Bool)} {rest : List Oper}
end
end Go.Vx

namespace Go.Vx
open Go Go.RowKit
theorem RelD.cellmono {P : Program} {w w' : World} {M : Nat → Prop} {av : AV} {v : Value} (h : RelD P w M av v) (hsz : w.heap.size ≤ w'.heap.size) (hc : ∀ a u, w.cell? a = some u → w'.cell? a = some u) : RelD P w' M av v := by
  induction h with
  | int k n => exact .int k n
  | bool b => exact .bool b
  | str s => exact .str s
  | lit v => exact .lit v
  | nils => exact .nils
  | sl0 e a c => exact .sl0 e a c
  | sl e l b off c us hlt h1 h2 h2' h3 h4 h5 ih => exact .sl e l b off c us (by omega) h1 h2 h2' h3 (fun i j hi hj => hc _ _ (h4 i j hi hj)) ih
  | rp cells b base off us hlt h1 h2 h3 ih => exact .rp cells b base off us (by omega) h1 (fun j hj => hc _ _ (h2 j hj)) ih
  | agg l vs h1 h2 ih => exact .agg l vs h1 ih
  | tuple l vs h1 h2 ih => exact .tuple l vs h1 ih
  | fn f l vs h1 h2 ih => exact .fn f l vs h1 ih
  | any v => exact .any v
  | slf e l v h hcc ih => exact .slf e l v ih hcc
theorem Rel.cellmono {P : Program} {w w' : World} {M : Nat → Prop} {φ : Phi} {av : AV} {v : Value} (h : Rel P w M φ av v) (hsz : w.heap.size ≤ w'.heap.size) (hc : ∀ a u, w.cell? a = some u → w'.cell? a = some u) : Rel P w' M φ av v := by
  induction h with
  | data h => exact .data (h.cellmono hsz hc)
  | own r n v hv h0 h => exact .own r n v hv h0 h
  | ptr r n i j v hv h0 h => exact .ptr r n i j v hv h0 h
  | osl r n j len v hv h0 h => exact .osl r n j len v hv h0 h
  | agg l vs h1 h2 ih => exact .agg l vs h1 ih
  | tuple l vs h1 h2 ih => exact .tuple l vs h1 ih
  | fn f l vs h1 h2 ih => exact .fn f l vs h1 ih
  | when b av v h1 h2 ih => exact .when b av v ih h2
  | mref r n v hv h0 h => exact .mref r n v hv h0 h
  | bptr r n v hv h0 h => exact .bptr r n v hv h0 h
theorem RelF.cellmono {P : Program} {w w' : World} {M : Nat → Prop} {n : Nat} {φ : Phi} {av : AV} {v : Value} (h : RelF P w M n φ av v) (hsz : w.heap.size ≤ w'.heap.size) (hc : ∀ a u, w.cell? a = some u → w'.cell? a = some u) : RelF P w' M n φ av v :=
  fun φ' hφ => (h φ' hφ).cellmono hsz hc
theorem Zjh {P : Program} {w w' : World} {M : Nat → Prop} {n : Nat} {φ : Phi} {r : Nat} {o : Own} (h : HRel P w M n φ r o) (hsz : w.heap.size ≤ w'.heap.size) (hc : ∀ a u, w.cell? a = some u → w'.cell? a = some u)
    (hb : ∀ b, (φ r).has b → w'.heap[b]? = w.heap[b]?) : HRel P w' M n φ r o := by
  refine ⟨h.len, h.sz, h.rows, h.room, h.cap, h.none, fun b hs => Nat.lt_of_lt_of_le (h.subl b hs) hsz, h.subn, fun b hbk => ?_⟩
  obtain ⟨cs, h1, h2, h3⟩ := h.some b hbk
  exact ⟨cs, h1.congr (hb b (.inl hbk)), h2, h3.tr (fun x hs => hb x (.inr hs)) fun av x hx => hx.cellmono hsz hc⟩
theorem HeapOK.turn {P : Program} {nt nt' n0 : Nat} {w0 w0' w w' : World} {A : Nat → Prop} {W : List Nat} {gl : Gl} {φ0 φ : Phi} {hp : List (Option Own)} (h : HeapOK ⟨P, nt, w0, A, W, gl, n0, φ0⟩ φ hp w)
    (h1 : w'.os = w0'.os) (h2 : w'.tape = w0'.tape) (h3 : w'.output = w0'.output) (h0 : w0'.heap.size = w0.heap.size) (h4 : w0'.heap.size ≤ w'.heap.size) (h5 : ∀ b, b < w0'.heap.size → b ∉ W → w'.heap[b]? = w0'.heap[b]?)
    (hsz : w.heap.size ≤ w'.heap.size) (hc : ∀ a u, w.cell? a = some u → w'.cell? a = some u) (hb : ∀ r o b, nth hp r = some o → (φ r).has b → w'.heap[b]? = w.heap[b]?)
    (hg : ∀ b, b < w0.heap.size → w0'.heap[b]? = w0.heap[b]? ∨ ∃ o, w0.heap[b]? = some o ∧ ∀ x y z, o ≠ .cells x y z) : HeapOK ⟨P, nt', w0', A, W, gl, n0, φ0⟩ φ hp w' where
  os := h1
  tape := h2
  output := h3
  heap := h4
  frame := h5
  owned := fun r o b hr hbk => by have := h.owned r o b hr hbk; simp only at this ⊢; rw [h0]; exact this
  apart := h.apart
  obj := fun r o hr => Zjh (h.obj r o hr) hsz hc fun b hbk => hb r o b hr hbk
  amb := fun b hA => by have := h.amb b hA; simp only at this ⊢; rw [h0]; exact this
  glob := by
    obtain ⟨g1, g2, g3⟩ := h.glob
    refine ⟨by simp only at g1 ⊢; rw [h0]; exact g1, g2, fun p hp => ?_⟩
    obtain ⟨k1, ⟨e, fr, k2⟩, k3⟩ := g3 p hp
    refine ⟨k1, ⟨e, fr, ?_⟩, k3⟩
    have hlt : p.1 < w0.heap.size := (Array.getElem?_eq_some_iff.1 k2).1
    rcases hg p.1 hlt with e1 | ⟨o, e1, e2⟩
    · exact e1.trans k2
    · rw [k2] at e1; cases e1; exact (e2 _ _ _ rfl).elim
  len := h.len
  mono := h.mono

end Go.Vx

namespace Go.Vx
open Go Go.RowKit
section
variable {c : Ctx} {ops : Array Oper} {st : St} {dst : Option Tmp} {ty : TypeId} {pos : String} {after : Array Edge}
end
end Go.Vx

namespace Go.Vx
open Go Go.RowKit
end Go.Vx

namespace Go.Vx
open Go Go.RowKit
section
variable {ro : Option Nat} {c : Ctx} {ops : Array Oper} {rest : List Oper} {st : St} {K : Exit → St → Prop} {dst : Option Tmp} {op : Op} {ty : TypeId} {pos : String} {after : Array Edge} {j d : Nat} {want b : Bool}
end
end Go.Vx

namespace Go.Vx
open Go Go.RowKit
section
variable {c : Ctx} {ops : Array Oper} {st : St} {dst : Option Tmp} {ty : TypeId} {pos : String} {after : Array Edge}
end
section
variable {α : Type} {e : TypeId} {R : α → List AV} {m : List (Int × List α)} {k : Int} {xs ys : List α} {fk : Int → AV}
end
end Go.Vx
