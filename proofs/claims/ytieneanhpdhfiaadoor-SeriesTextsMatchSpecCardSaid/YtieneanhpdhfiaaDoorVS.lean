/- A text of the proof: a verified executor of the program form, or the contracts of the functions that the law reaches. -/
import Derived.Test.YtieneanhpdhfiaaDoorVR
import Derived.Shelf.Slices.In.SortNone
import Derived.Test.YtieneanhpdhfiaaDoorVP
import Derived.Test.YtieneanhpdhfiaaDoorVM
import Derived.Test.YtieneanhpdhfiaaDoorVH
import Derived.Test.YtieneanhpdhfiaaDoorVK
set_option linter.all false
namespace Go.Vx
open Go Go.RowKit Go.Lib Go.Sort
end Go.Vx

namespace Go.Vx
open Go Go.RowKit
end Go.Vx

namespace Go.Vx
open Go Go.RowKit

def flB : AV → Bool
  | .int _ _ | .bool _ | .str _ | .lit _ | .nils | .any => true
  | _ => false
inductive DeepC (P : Program) : AV → Prop
  | flat {av : AV} : flB av = true → DeepC P av
  | sub {e : TypeId} {l : List (List AV)} : (∀ row ∈ l, row.length = P.cellsOf e) → (∀ i j, DeepC P (cellAt l i j)) → DeepC P (.osub e l)
section rows
variable {P : Program} {α : Type} {f g : α → List AV} {e : TypeId} {xs : List α}
theorem Zd9 {hp : List (Option Own)} {r : Nat} {o : Own} (h : nth hp r = some o) : ZF hp r (some o) = hp := by
  induction hp generalizing r with
  | nil => cases h
  | cons x hp ih =>
    cases r with
    | zero => simp only [nth] at h; simp [ZF, h]
    | succ r => simp only [nth] at h; simp only [ZF]; rw [ih h]
end rows

section ent
variable {c : Ctx} {tm : List (Nat × AV)} {hp : List (Option Own)} {α β : Type} {f : α → List AV} {e e' : TypeId} {xs : List α} {r i j q n : Nat} {x y : α} {row : List AV} {l : List (List AV)}
end ent

section melt
variable {P : Program} {α : Type} {f g : α → List AV} {e : TypeId} {xs : List α}
end melt

section view
variable {c : Ctx} {st : St} {α : Type} {f g : α → List AV} {e : TypeId} {xs : List α} {r n : Nat}
end view

section ops
variable {c : Ctx} {ops : Array Oper} {st : St} {dst : Option Tmp} {ty : TypeId} {pos : String} {after : Array Edge} {α : Type} {f : α → List AV} {e : TypeId} {xs : List α} {r n : Nat}
inductive ElemsO (c : Ctx) (st : St) (sz : Nat) : List (Nat × Operand) → Nat → List (List AV) → Prop
  | nil {k : Nat} : ElemsO c st sz [] k []
  | cons {k : Nat} {x : Operand} {l : List AV} {ps : List (Nat × Operand)} {ls : List (List AV)} : CellV c st x l → l.length = sz → ElemsO c st sz ps (k + 1) ls → ElemsO c st sz ((k, x) :: ps) k (l :: ls)
theorem ElemsO.spec {sz : Nat} {ps : List (Nat × Operand)} {k : Nat} {ls : List (List AV)} (h : ElemsO c st sz ps k ls) {φ : Phi} {a : Act} {w : World} (hc : Conc c φ st a w) :
    ps.length = ls.length ∧ (∀ row ∈ ls, row.length = sz) ∧ (∀ q, q < ps.length → ((ps.map fun p => (p.1, a.eval p.2)).getD q (0, undef)).1 = k + q) ∧ (∀ p ∈ ps.map (fun p => (p.1, a.eval p.2)), p.2.cells.size = sz) ∧
      ∀ q j, q < ps.length → j < sz → RelF c.P w (Mut c.A φ st.hp) st.hp.length φ (cellAt ls q j) ((((ps.map fun p => (p.1, a.eval p.2)).getD q (0, undef)).2.cells).getD j undef) := by
  induction h with
  | nil => exact ⟨rfl, by simp, (fun q hq => by cases hq), by simp, (fun q j hq => by cases hq)⟩
  | @cons k x l ps ls hx hl _ ih =>
    obtain ⟨h1, h2, h3, h4, h5⟩ := ih
    obtain ⟨c1, c2⟩ := hx φ a w hc
    refine ⟨by simp [h1], ?_, fun q hq => ?_, ?_, fun q j hq hj => ?_⟩
    · intro row hrow
      rcases List.mem_cons.1 hrow with rfl | hrow
      · exact hl
      · exact h2 row hrow
    · cases q with
      | zero => simp
      | succ q =>
        have := h3 q (by simpa using hq)
        simp at this ⊢
        omega
    · intro p hp
      rcases List.mem_cons.1 hp with rfl | hp
      · exact c1.trans hl
      · exact h4 p hp
    · cases q with
      | zero =>
        have := c2 j (by omega)
        simpa [cellAt] using this
      | succ q =>
        have := h5 q j (by simpa using hq) hj
        simpa [cellAt] using this
end ops

def ZfC : AV → Bool
  | .own _ _ | .ptr _ _ _ _ | .mref _ _ | .bptr _ _ => true
  | av => flB av
def Zes : AV → Bool
  | .agg l => l.all ZfC
  | av => ZfC av
theorem ZeH {p : AV → Bool} {l : List AV} (h : l.all p = true) {i : Nat} (hi : i < l.length) : p (l.getD i .any) = true := by
  have e : l.getD i .any = l[i] := by simp [List.getD_eq_getElem?_getD, hi]
  rw [e]; exact List.all_eq_true.1 h _ (List.getElem_mem _)
def FreC (P : Program) (av : AV) : Prop := DeepC P av ∨ Zes av = true
inductive FreOs (P : Program) : List (Option Own) → Prop
  | nil : FreOs P []
  | none {tl : List (Option Own)} : FreOs P tl → FreOs P (none :: tl)
  | cons {o : Own} {tl : List (Option Own)} : (∀ i j, i < o.es.length → j < P.cellsOf o.elem → FreC P (cellAt o.es i j)) → FreOs P tl → FreOs P (some o :: tl)
theorem FreOs.get {P : Program} {os : List (Option Own)} (h : FreOs P os) : ∀ i o, nth os i = some o → ∀ i' j, i' < o.es.length → j < P.cellsOf o.elem → FreC P (cellAt o.es i' j) := by
  induction h with
  | nil => intro i o h; cases h
  | none _ ih =>
    intro i o h
    cases i with
    | zero => cases h
    | succ i => exact ih i o h
  | cons h1 _ ih =>
    intro i o h
    cases i with
    | zero => cases h; exact h1
    | succ i => exact ih i o h
theorem fr1 {P : Program} {e : TypeId} {l : List AV} (h : l.all Zes = true) : ∀ i j, i < (⟨e, [l]⟩ : Own).es.length → j < P.cellsOf (⟨e, [l]⟩ : Own).elem → FreC P (cellAt (⟨e, [l]⟩ : Own).es i j) := fun i j hi _ => by
  simp only [List.length_singleton] at hi
  obtain rfl : i = 0 := by omega
  have e1 : cellAt [l] 0 j = l.getD j .any := rfl
  rw [e1]
  by_cases hj : j < l.length
  · exact .inr (ZeH h hj)
  · rw [List.getD_eq_getElem?_getD, List.getElem?_eq_none (by omega)]; exact .inr rfl

section callV
variable {c : Ctx} {ops : Array Oper} {st : St} {dst : Option Tmp} {ty : TypeId} {pos : String} {after : Array Edge}
end callV
end Go.Vx

namespace Go.Vx
open Go Go.RowKit
section
variable {c : Ctx} {ops : Array Oper} {st : St} {dst : Option Tmp} {ty : TypeId} {pos : String} {after : Array Edge} {α : Type} {f : α → List AV}
end
end Go.Vx

namespace Go.Vx
open Go Go.RowKit
section t9
variable {α β γ δ ε ζ η θ μ ι κ ρ : Type}
def t9 (f : α → β → γ → δ → ε → ζ → η → θ → μ → ι) (p : α × β × γ × δ × ε × ζ × η × θ × μ) : ι := f p.1 p.2.1 p.2.2.1 p.2.2.2.1 p.2.2.2.2.1 p.2.2.2.2.2.1 p.2.2.2.2.2.2.1 p.2.2.2.2.2.2.2.1 p.2.2.2.2.2.2.2.2
@[simp] theorem ZgW (f : α → β → γ → δ → ε → ζ → η → θ → μ → ι) (a : α) (b : β) (c : γ) (d : δ) (e : ε) (g : ζ) (h : η) (i : θ) (j : μ) : t9 f (a, b, c, d, e, g, h, i, j) = f a b c d e g h i j := rfl
end t9
section
variable {c : Ctx} {ops : Array Oper} {st : St} {dst : Option Tmp} {ty : TypeId} {pos : String} {after : Array Edge} {α : Type} {f : α → List AV}
end
end Go.Vx

namespace Go.Vx
open Go Go.RowKit
section t10
variable {α β γ δ ε ζ η θ μ ν ι κ ρ : Type}
def t10 (f : α → β → γ → δ → ε → ζ → η → θ → μ → ν → ι) (p : α × β × γ × δ × ε × ζ × η × θ × μ × ν) : ι := f p.1 p.2.1 p.2.2.1 p.2.2.2.1 p.2.2.2.2.1 p.2.2.2.2.2.1 p.2.2.2.2.2.2.1 p.2.2.2.2.2.2.2.1 p.2.2.2.2.2.2.2.2.1 p.2.2.2.2.2.2.2.2.2
@[simp] theorem ZgQ (f : α → β → γ → δ → ε → ζ → η → θ → μ → ν → ι) (a : α) (b : β) (c : γ) (d : δ) (e : ε) (g : ζ) (h : η) (i : θ) (j : μ) (l : ν) : t10 f (a, b, c, d, e, g, h, i, j, l) = f a b c d e g h i j l := rfl
end t10
section ops
variable {c : Ctx} {ops : Array Oper} {st : St} {dst : Option Tmp} {ty : TypeId} {pos : String} {after : Array Edge}
variable {α : Type} {f : α → List AV}
end ops
end Go.Vx

namespace Go.Vx
open Go Go.RowKit
theorem Y {α : Sort _} {a : α} : a = a := rfl
class SzD (P : Program) (e : TypeId) (n : outParam Nat) : Prop where
  h : P.cellsOf e = n
class RowD (P : Program) {α : Type} (e : TypeId) (f : α → List AV) : Prop where
  h : ∀ x, (f x).length = P.cellsOf e ∧ (f x).all datB = true
section
variable {c : Ctx} {ops : Array Oper} {st : St} {K : Exit → St → Prop} {dst : Option Tmp} {x y : Operand} {ty : TypeId} {pos : String} {after : Array Edge} {rest : List Oper} {o : Oper} {v P Q : AV}
theorem Rq (hd : dstLt o.dst c.nt = true) (hv : SVal c ops st o v) (h : R c ops rest (st.puto o.dst v) K) : R c ops (o :: rest) st K := R_q v hd hv h
theorem Rx {hp' : List (Option Own)} (hd : dstLt o.dst c.nt = true) (hv : WVal c ops st o v hp') (h : R c ops rest (St.puto ⟨st.tm, hp'⟩ o.dst v) K) : R c ops (o :: rest) st K := R_w v hp' hd hv h
theorem Rm (e : (dstLt dst c.nt, opv st.tm x) = (true, some v)) (k : R c ops rest (st.puto dst v) K) : R c ops (⟨dst, .move x, ty, pos, after, none⟩ :: rest) st K := R_q v (congrArg Prod.fst e) (Zk (ov (congrArg Prod.snd e))) k
theorem Ra (e : (dstLt dst c.nt, opv st.tm x) = (true, some v)) (k : R c ops rest (st.puto dst v) K) : R c ops (⟨dst, .assign x, ty, pos, after, none⟩ :: rest) st K := R_q v (congrArg Prod.fst e) (Zbr (ov (congrArg Prod.snd e))) k
theorem R1 (L : Opv c st x P → SVal c ops st o v) (e : (dstLt o.dst c.nt, opv st.tm x) = (true, some P)) (k : R c ops rest (st.puto o.dst v) K) : R c ops (o :: rest) st K := R_q v (congrArg Prod.fst e) (L (ov (congrArg Prod.snd e))) k
theorem R2 (L : Opv c st x P → Opv c st y Q → SVal c ops st o v) (e : (dstLt o.dst c.nt, opv st.tm x, opv st.tm y) = (true, some P, some Q)) (k : R c ops rest (st.puto o.dst v) K) : R c ops (o :: rest) st K :=
  R_q v (congrArg Prod.fst e) (L (ov (congrArg (·.2.1) e)) (ov (congrArg (·.2.2) e))) k
theorem Rl {α : Type} {f : α → List AV} {xs : List α} {t e sz by_ : Nat} (hsz : c.P.cellsOf e = sz) (ht : tSl c.P t e sz by_ = true) (e' : (dstLt dst c.nt, opv st.tm y) = (true, some (.sl e (xs.map f))))
    (k : R c ops rest (st.puto dst (.int .i64 (xs.length : Int))) K) : R c ops (⟨dst, .call { callee := .builtin .len, args := #[y], argTypes := #[t] }, ty, pos, after, none⟩ :: rest) st K :=
  R_q _ (congrArg Prod.fst e') (Zeb (XZ (ov (congrArg Prod.snd e')) hsz) ht (Zcr _ _)) k
theorem Tr {id : Nat} {l : List Oper} {y : Code} (h : R c l.toArray l st (JD (fun st' => T c y st' K) K)) : T c (.seq (.region id l.toArray false) y) st K := Zq (Zx h)
theorem Td (cw : Md) {id : Nat} {y : Code} (h : Dv cw c ops (KE c (JD (fun st' => T c y st' K) K)) 0 st) (hm : c.P.follows .mixedOrders = true := by kernel_rfl) : T c (.seq (.region id ops true) y) st K := Zq (ZfN (cw := cw) hm h)
theorem If {β γ : Type} {X Y : Option β} {k : β → Option γ} {r : γ} {t : Nat} {b : Bool} {x y : Code} (h : (if b = true then X else Y).bind k = some r) (hl : look st.tm t = some (.bool b))
    (h1 : X.bind k = some r → T c x st K) (h2 : Y.bind k = some r → T c y st K) : T c (.cond (.tmp t) x y) st K := ZgJ h hl (fun _ => h1) fun _ => h2
theorem bE {α β γ : Type} {k : β → Option γ} {r : γ} {G : Prop} {o : Option α} {f : α → Option β} (h : (o.bind f).bind k = some r) (g : ∀ x, o = some x → (f x).bind k = some r → G) : G := let ⟨x, h1, h2⟩ := bnd h; g x h1 h2
theorem Xv {k : IntKind} {m n : Int} {t u : TypeId} (h : Opv c st x (.int k m)) (h' : Opv c st y (.int k n)) : SVal c ops st ⟨dst, .binOp .add t x y u, ty, pos, after, none⟩ (.int k (k.wrap (m + n))) := ZfI h h' rfl
theorem Zf1 {k : IntKind} {m n : Int} {t u : TypeId} (h : Opv c st x (.int k m)) (h' : Opv c st y (.int k n)) : SVal c ops st ⟨dst, .binOp .sub t x y u, ty, pos, after, none⟩ (.int k (k.wrap (m - n))) := ZdH h h' rfl
theorem Zf3 {k : IntKind} {m n : Int} {t u : TypeId} (h : Opv c st x (.int k m)) (h' : Opv c st y (.int k n)) : SVal c ops st ⟨dst, .binOp .mul t x y u, ty, pos, after, none⟩ (.int k (k.wrap (m * n))) := Zgp h h' rfl
theorem rb {t : Nat} (e : (look st.tm t, datB v) = (some v, true)) : RetV c st (.tmp t) v := .tmp (congrArg Prod.fst e) (Dat.view (.b (congrArg Prod.snd e)))
theorem cb {xs : List Operand} {ds : List AV} (e : (opv st.tm x, datB v) = (some v, true)) (k : ArgsD c st xs ds) : ArgsD c st (x :: xs) (v :: ds) := .cons (ov (congrArg Prod.fst e)) (.b (congrArg Prod.snd e)) k
end
theorem So {P : Program} {gl : Gl} {f : FuncId} {fn : Func} {code : Code} {args : List AV} {res : AV} (hf : P.funcs[f]? = some fn) (e : (fn.body, Nat.ble args.length fn.ntmps) = (some code, true))
    (hT : ∀ w0 A, T ⟨P, fn.ntmps, w0, A, [], gl, 0, φz⟩ code ⟨ZaU 0 args, []⟩ (ZfV ⟨P, fn.ntmps, w0, A, [], gl, 0, φz⟩ fn.results res)) (hc : callable P f = true := by kernel_rfl) : CSpec P gl f args res := Zff hc hf (congrArg Prod.fst e) (congrArg Prod.snd e) hT

theorem K1 {c : Ctx} {code : Code} {st : St} {K : Exit → St → Prop} {a0 : AV} (i0 : Nat) (e : look st.tm i0 = some a0) (k : T c code ⟨[(i0, a0)], st.hp⟩ K) : T c code st K := X0 (.cons (e) rfl (.nil)) rfl k
theorem K2 {c : Ctx} {code : Code} {st : St} {K : Exit → St → Prop} {a0 a1 : AV} (i0 i1 : Nat) (e : (look st.tm i0, look st.tm i1) = (some a0, some a1)) (k : T c code ⟨[(i0, a0), (i1, a1)], st.hp⟩ K) : T c code st K := X0 (.cons (congrArg (·.1) e) rfl (.cons (congrArg (·.2) e) rfl (.nil))) rfl k
theorem K3 {c : Ctx} {code : Code} {st : St} {K : Exit → St → Prop} {a0 a1 a2 : AV} (i0 i1 i2 : Nat) (e : (look st.tm i0, look st.tm i1, look st.tm i2) = (some a0, some a1, some a2)) (k : T c code ⟨[(i0, a0), (i1, a1), (i2, a2)], st.hp⟩ K) : T c code st K := X0 (.cons (congrArg (·.1) e) rfl (.cons (congrArg (·.2.1) e) rfl (.cons (congrArg (·.2.2) e) rfl (.nil)))) rfl k
theorem K4 {c : Ctx} {code : Code} {st : St} {K : Exit → St → Prop} {a0 a1 a2 a3 : AV} (i0 i1 i2 i3 : Nat) (e : (look st.tm i0, look st.tm i1, look st.tm i2, look st.tm i3) = (some a0, some a1, some a2, some a3)) (k : T c code ⟨[(i0, a0), (i1, a1), (i2, a2), (i3, a3)], st.hp⟩ K) : T c code st K := X0 (.cons (congrArg (·.1) e) rfl (.cons (congrArg (·.2.1) e) rfl (.cons (congrArg (·.2.2.1) e) rfl (.cons (congrArg (·.2.2.2) e) rfl (.nil))))) rfl k
theorem K5 {c : Ctx} {code : Code} {st : St} {K : Exit → St → Prop} {a0 a1 a2 a3 a4 : AV} (i0 i1 i2 i3 i4 : Nat) (e : (look st.tm i0, look st.tm i1, look st.tm i2, look st.tm i3, look st.tm i4) = (some a0, some a1, some a2, some a3, some a4)) (k : T c code ⟨[(i0, a0), (i1, a1), (i2, a2), (i3, a3), (i4, a4)], st.hp⟩ K) : T c code st K := X0 (.cons (congrArg (·.1) e) rfl (.cons (congrArg (·.2.1) e) rfl (.cons (congrArg (·.2.2.1) e) rfl (.cons (congrArg (·.2.2.2.1) e) rfl (.cons (congrArg (·.2.2.2.2) e) rfl (.nil)))))) rfl k
theorem K6 {c : Ctx} {code : Code} {st : St} {K : Exit → St → Prop} {a0 a1 a2 a3 a4 a5 : AV} (i0 i1 i2 i3 i4 i5 : Nat) (e : (look st.tm i0, look st.tm i1, look st.tm i2, look st.tm i3, look st.tm i4, look st.tm i5) = (some a0, some a1, some a2, some a3, some a4, some a5)) (k : T c code ⟨[(i0, a0), (i1, a1), (i2, a2), (i3, a3), (i4, a4), (i5, a5)], st.hp⟩ K) : T c code st K := X0 (.cons (congrArg (·.1) e) rfl (.cons (congrArg (·.2.1) e) rfl (.cons (congrArg (·.2.2.1) e) rfl (.cons (congrArg (·.2.2.2.1) e) rfl (.cons (congrArg (·.2.2.2.2.1) e) rfl (.cons (congrArg (·.2.2.2.2.2) e) rfl (.nil))))))) rfl k
theorem K7 {c : Ctx} {code : Code} {st : St} {K : Exit → St → Prop} {a0 a1 a2 a3 a4 a5 a6 : AV} (i0 i1 i2 i3 i4 i5 i6 : Nat) (e : (look st.tm i0, look st.tm i1, look st.tm i2, look st.tm i3, look st.tm i4, look st.tm i5, look st.tm i6) = (some a0, some a1, some a2, some a3, some a4, some a5, some a6)) (k : T c code ⟨[(i0, a0), (i1, a1), (i2, a2), (i3, a3), (i4, a4), (i5, a5), (i6, a6)], st.hp⟩ K) : T c code st K := X0 (.cons (congrArg (·.1) e) rfl (.cons (congrArg (·.2.1) e) rfl (.cons (congrArg (·.2.2.1) e) rfl (.cons (congrArg (·.2.2.2.1) e) rfl (.cons (congrArg (·.2.2.2.2.1) e) rfl (.cons (congrArg (·.2.2.2.2.2.1) e) rfl (.cons (congrArg (·.2.2.2.2.2.2) e) rfl (.nil)))))))) rfl k
theorem K8 {c : Ctx} {code : Code} {st : St} {K : Exit → St → Prop} {a0 a1 a2 a3 a4 a5 a6 a7 : AV} (i0 i1 i2 i3 i4 i5 i6 i7 : Nat) (e : (look st.tm i0, look st.tm i1, look st.tm i2, look st.tm i3, look st.tm i4, look st.tm i5, look st.tm i6, look st.tm i7) = (some a0, some a1, some a2, some a3, some a4, some a5, some a6, some a7)) (k : T c code ⟨[(i0, a0), (i1, a1), (i2, a2), (i3, a3), (i4, a4), (i5, a5), (i6, a6), (i7, a7)], st.hp⟩ K) : T c code st K := X0 (.cons (congrArg (·.1) e) rfl (.cons (congrArg (·.2.1) e) rfl (.cons (congrArg (·.2.2.1) e) rfl (.cons (congrArg (·.2.2.2.1) e) rfl (.cons (congrArg (·.2.2.2.2.1) e) rfl (.cons (congrArg (·.2.2.2.2.2.1) e) rfl (.cons (congrArg (·.2.2.2.2.2.2.1) e) rfl (.cons (congrArg (·.2.2.2.2.2.2.2) e) rfl (.nil))))))))) rfl k
theorem K9 {c : Ctx} {code : Code} {st : St} {K : Exit → St → Prop} {a0 a1 a2 a3 a4 a5 a6 a7 a8 : AV} (i0 i1 i2 i3 i4 i5 i6 i7 i8 : Nat) (e : (look st.tm i0, look st.tm i1, look st.tm i2, look st.tm i3, look st.tm i4, look st.tm i5, look st.tm i6, look st.tm i7, look st.tm i8) = (some a0, some a1, some a2, some a3, some a4, some a5, some a6, some a7, some a8)) (k : T c code ⟨[(i0, a0), (i1, a1), (i2, a2), (i3, a3), (i4, a4), (i5, a5), (i6, a6), (i7, a7), (i8, a8)], st.hp⟩ K) : T c code st K := X0 (.cons (congrArg (·.1) e) rfl (.cons (congrArg (·.2.1) e) rfl (.cons (congrArg (·.2.2.1) e) rfl (.cons (congrArg (·.2.2.2.1) e) rfl (.cons (congrArg (·.2.2.2.2.1) e) rfl (.cons (congrArg (·.2.2.2.2.2.1) e) rfl (.cons (congrArg (·.2.2.2.2.2.2.1) e) rfl (.cons (congrArg (·.2.2.2.2.2.2.2.1) e) rfl (.cons (congrArg (·.2.2.2.2.2.2.2.2) e) rfl (.nil)))))))))) rfl k
theorem K0 {c : Ctx} {code : Code} {st : St} {K : Exit → St → Prop} (k : T c code ⟨[], st.hp⟩ K) : T c code st K := X0 .nil rfl k
theorem J0 {τ β γ : Type} {c : Ctx} {st : St} {K : Exit → St → Prop} {k : β → Option γ} {r : γ} {G : τ → Option β} {X : Option τ} {x y : Code} (inj : (Unit) → τ) (J : St) (h : (X.bind G).bind k = some r)
    (hx : X.bind (fun o => (G o).bind k) = some r → T c x st (JD (fun st' => ∃ i, (G (inj i)).bind k = some r ∧ Ent c st' (t0 J i)) K))
    (ky : (G (inj ())).bind k = some r → T c y (J) K) : T c (.seq x y) st K :=
  JF inj (t0 J) h hx fun i h => ky h
theorem L1 {ρ : Type} {α0 : Type} {c : Ctx} {code : Code} {st : St} {K : Exit → St → Prop} {body : (α0) → Option ((α0) ⊕ ρ)} (I : α0 → St) {s0 : α0} {r : ρ} (h : loop body s0 = some r) (h0 : Ent c st (t1 I s0))
    (hr : ∀ (n : Nat) (a0 : α0), (body a0).bind (Sum.elim (XJ body n) some) = some r → T c code (I a0) (JD (fun st' => ∃ s', XJ body n s' = some r ∧ Ent c st' (t1 I s')) K)) : T c (.loop code) st K :=
  Za8 body (t1 I) s0 h h0 fun n s h => hr n s h
theorem J1 {τ β γ : Type} {α0 : Type} {c : Ctx} {st : St} {K : Exit → St → Prop} {k : β → Option γ} {r : γ} {G : τ → Option β} {X : Option τ} {x y : Code} (inj : (α0) → τ) (J : α0 → St) (h : (X.bind G).bind k = some r)
    (hx : X.bind (fun o => (G o).bind k) = some r → T c x st (JD (fun st' => ∃ i, (G (inj i)).bind k = some r ∧ Ent c st' (t1 J i)) K))
    (ky : ∀ (a0 : α0), (G (inj a0)).bind k = some r → T c y (J a0) K) : T c (.seq x y) st K :=
  JF inj (t1 J) h hx fun i h => ky i h
theorem I1 {β γ : Type} {α0 : Type} {c : Ctx} {st : St} {K : Exit → St → Prop} {k : β → Option γ} {r : γ} {g : α0 → Option β} {X : Option (α0)} {x y : Code} (J : α0 → St) (h : (X.bind (t1 g)).bind k = some r)
    (hx : X.bind (fun o => (t1 g o).bind k) = some r → T c x st (JD (fun st' => ∃ i, (t1 g i).bind k = some r ∧ Ent c st' (t1 J i)) K))
    (ky : ∀ (a0 : α0), (g a0).bind k = some r → T c y (J a0) K) : T c (.seq x y) st K :=
  JF (G := t1 g) id (t1 J) h hx fun i h => ky i h
theorem L2 {ρ : Type} {α0 α1 : Type} {c : Ctx} {code : Code} {st : St} {K : Exit → St → Prop} {body : (α0 × α1) → Option ((α0 × α1) ⊕ ρ)} (I : α0 → α1 → St) {s0 : α0 × α1} {r : ρ} (h : loop body s0 = some r) (h0 : Ent c st (t2 I s0))
    (hr : ∀ (n : Nat) (a0 : α0) (a1 : α1), (body (a0, a1)).bind (Sum.elim (XJ body n) some) = some r → T c code (I a0 a1) (JD (fun st' => ∃ s', XJ body n s' = some r ∧ Ent c st' (t2 I s')) K)) : T c (.loop code) st K :=
  Za8 body (t2 I) s0 h h0 fun n s h => hr n (s.1) (s.2) h
theorem J2 {τ β γ : Type} {α0 α1 : Type} {c : Ctx} {st : St} {K : Exit → St → Prop} {k : β → Option γ} {r : γ} {G : τ → Option β} {X : Option τ} {x y : Code} (inj : (α0 × α1) → τ) (J : α0 → α1 → St) (h : (X.bind G).bind k = some r)
    (hx : X.bind (fun o => (G o).bind k) = some r → T c x st (JD (fun st' => ∃ i, (G (inj i)).bind k = some r ∧ Ent c st' (t2 J i)) K))
    (ky : ∀ (a0 : α0) (a1 : α1), (G (inj (a0, a1))).bind k = some r → T c y (J a0 a1) K) : T c (.seq x y) st K :=
  JF inj (t2 J) h hx fun i h => ky (i.1) (i.2) h
theorem I2 {β γ : Type} {α0 α1 : Type} {c : Ctx} {st : St} {K : Exit → St → Prop} {k : β → Option γ} {r : γ} {g : α0 → α1 → Option β} {X : Option (α0 × α1)} {x y : Code} (J : α0 → α1 → St) (h : (X.bind (t2 g)).bind k = some r)
    (hx : X.bind (fun o => (t2 g o).bind k) = some r → T c x st (JD (fun st' => ∃ i, (t2 g i).bind k = some r ∧ Ent c st' (t2 J i)) K))
    (ky : ∀ (a0 : α0) (a1 : α1), (g a0 a1).bind k = some r → T c y (J a0 a1) K) : T c (.seq x y) st K :=
  JF (G := t2 g) id (t2 J) h hx fun i h => ky (i.1) (i.2) h
theorem L3 {ρ : Type} {α0 α1 α2 : Type} {c : Ctx} {code : Code} {st : St} {K : Exit → St → Prop} {body : (α0 × α1 × α2) → Option ((α0 × α1 × α2) ⊕ ρ)} (I : α0 → α1 → α2 → St) {s0 : α0 × α1 × α2} {r : ρ} (h : loop body s0 = some r) (h0 : Ent c st (t3 I s0))
    (hr : ∀ (n : Nat) (a0 : α0) (a1 : α1) (a2 : α2), (body (a0, a1, a2)).bind (Sum.elim (XJ body n) some) = some r → T c code (I a0 a1 a2) (JD (fun st' => ∃ s', XJ body n s' = some r ∧ Ent c st' (t3 I s')) K)) : T c (.loop code) st K :=
  Za8 body (t3 I) s0 h h0 fun n s h => hr n (s.1) (s.2.1) (s.2.2) h
theorem I3 {β γ : Type} {α0 α1 α2 : Type} {c : Ctx} {st : St} {K : Exit → St → Prop} {k : β → Option γ} {r : γ} {g : α0 → α1 → α2 → Option β} {X : Option (α0 × α1 × α2)} {x y : Code} (J : α0 → α1 → α2 → St) (h : (X.bind (t3 g)).bind k = some r)
    (hx : X.bind (fun o => (t3 g o).bind k) = some r → T c x st (JD (fun st' => ∃ i, (t3 g i).bind k = some r ∧ Ent c st' (t3 J i)) K))
    (ky : ∀ (a0 : α0) (a1 : α1) (a2 : α2), (g a0 a1 a2).bind k = some r → T c y (J a0 a1 a2) K) : T c (.seq x y) st K :=
  JF (G := t3 g) id (t3 J) h hx fun i h => ky (i.1) (i.2.1) (i.2.2) h
theorem L4 {ρ : Type} {α0 α1 α2 α3 : Type} {c : Ctx} {code : Code} {st : St} {K : Exit → St → Prop} {body : (α0 × α1 × α2 × α3) → Option ((α0 × α1 × α2 × α3) ⊕ ρ)} (I : α0 → α1 → α2 → α3 → St) {s0 : α0 × α1 × α2 × α3} {r : ρ} (h : loop body s0 = some r) (h0 : Ent c st (t4 I s0))
    (hr : ∀ (n : Nat) (a0 : α0) (a1 : α1) (a2 : α2) (a3 : α3), (body (a0, a1, a2, a3)).bind (Sum.elim (XJ body n) some) = some r → T c code (I a0 a1 a2 a3) (JD (fun st' => ∃ s', XJ body n s' = some r ∧ Ent c st' (t4 I s')) K)) : T c (.loop code) st K :=
  Za8 body (t4 I) s0 h h0 fun n s h => hr n (s.1) (s.2.1) (s.2.2.1) (s.2.2.2) h
section
variable {cw : Md} {c : Ctx} {ops : Array Oper} {m : Nat} {st : St} {K : Exit → St → Prop} {dst : Option Tmp} {x y : Operand} {ty : TypeId} {pos : String} {after : Array Edge} {o o' : Oper} {v v' P Q : AV} {hp' : List (Option Own)}
theorem Dq (i : Nat) (e : (ops[i]?, dstLt o.dst c.nt, noWrite cw.cw o.op) = (some o, true, true)) (h : SVal c ops ⟨restr st.tm (o.looksAt ops), st.hp⟩ o v) (k : Dv cw c ops (KE c K) (setBit m i) (st.puto o.dst v))
    (ht : takeQ cw ops m i = true := by kernel_rfl) : Dv cw c ops (KE c K) m st := ZfW i v (congrArg Prod.fst e) ht (congrArg (·.2.1) e) (congrArg (·.2.2) e) h k
theorem D1 (i : Nat) (L : Opv c ⟨restr st.tm (o.looksAt ops), st.hp⟩ x P → SVal c ops ⟨restr st.tm (o.looksAt ops), st.hp⟩ o v) (e : (ops[i]?, dstLt o.dst c.nt, noWrite cw.cw o.op, opv (restr st.tm (o.looksAt ops)) x) = (some o, true, true, some P))
    (k : Dv cw c ops (KE c K) (setBit m i) (st.puto o.dst v)) (ht : takeQ cw ops m i = true := by kernel_rfl) : Dv cw c ops (KE c K) m st := ZfW i v (congrArg Prod.fst e) ht (congrArg (·.2.1) e) (congrArg (·.2.2.1) e) (L (ov (congrArg (·.2.2.2) e))) k
theorem D2 (i : Nat) (L : Opv c ⟨restr st.tm (o.looksAt ops), st.hp⟩ x P → Opv c ⟨restr st.tm (o.looksAt ops), st.hp⟩ y Q → SVal c ops ⟨restr st.tm (o.looksAt ops), st.hp⟩ o v)
    (e : (ops[i]?, dstLt o.dst c.nt, noWrite cw.cw o.op, opv (restr st.tm (o.looksAt ops)) x, opv (restr st.tm (o.looksAt ops)) y) = (some o, true, true, some P, some Q))
    (k : Dv cw c ops (KE c K) (setBit m i) (st.puto o.dst v)) (ht : takeQ cw ops m i = true := by kernel_rfl) : Dv cw c ops (KE c K) m st :=
  ZfW i v (congrArg Prod.fst e) ht (congrArg (·.2.1) e) (congrArg (·.2.2.1) e) (L (ov (congrArg (·.2.2.2.1) e)) (ov (congrArg (·.2.2.2.2) e))) k
theorem Do (i : Nat) (e : (ops[i]?, dstLt o.dst c.nt, noWrite cw.cw o.op) = (some o, true, false)) (h : WVal c ops ⟨restr st.tm (o.looksAt ops), st.hp⟩ o v hp') (k : Dv cw c ops (KE c K) (setBit m i) (St.puto ⟨st.tm, hp'⟩ o.dst v)) (ht : onlyAt ops m i = true := by kernel_rfl)
    (hx : extOp o.op = true → Ext st.hp hp' := by intro h; cases h) (hy : cw.fr = true → ExtW cw.wl cw.base hp' := by intro h; cases h) : Dv cw c ops (KE c K) m st := ZgD i v hp' (congrArg Prod.fst e) ht (congrArg (·.2.1) e) (congrArg (·.2.2) e) hx hy h k
theorem Dw (i j : Nat) (e : (ops[i]?, ops[j]?, dstLt o.dst c.nt, dstLt o'.dst c.nt, noWrite cw.cw o.op, noWrite cw.cw o'.op) = (some o, some o', true, true, true, false))
    (h : SVal c ops ⟨restr st.tm (o.looksAt ops), st.hp⟩ o v) (h' : WVal c ops ⟨restr st.tm (o'.looksAt ops), st.hp⟩ o' v' hp')
    (k : Dv cw c ops (KE c K) (setBit m i) (st.puto o.dst v)) (k' : Dv cw c ops (KE c K) (setBit m j) (St.puto ⟨st.tm, hp'⟩ o'.dst v')) (ht : ZeB ops m i j = true := by kernel_rfl)
    (hx' : extOp o'.op = true → Ext st.hp hp' := by intro h; cases h) (hy' : cw.fr = true → ExtW cw.wl cw.base hp' := by intro h; cases h) : Dv cw c ops (KE c K) m st :=
  ZfJ i j (congrArg (·.1) e) (congrArg (·.2.1) e) ht (congrArg (·.2.2.1) e) (congrArg (·.2.2.2.1) e) (congrArg (·.2.2.2.2.1) e) (congrArg (·.2.2.2.2.2) e) hx' hy' h h' k k'
theorem Dd (k : K .normal st) (h : ZdC ops m = true := by kernel_rfl) : Dv cw c ops (KE c K) m st := Zgd h k
end
theorem ES {c : Ctx} {st : St} {tm' : List (Nat × AV)} {hp' : List (Option Own)} (s : List (Option Nat))
    (htm : SelTm (ZaI s st.hp) st.tm tm' := by repeat (first | exact sn | refine sd _ rfl rfl ?_ | (refine sr _ rfl ?_ ?_; (· first | exact .dat rfl | exact .own _ rfl | exact .ptr _ _ _ rfl | exact .mref _ rfl | exact .row rfl | exact .nils _ | (refine ZdY ?_; (· first | exact rld rfl | (refine rld ?_; (· first | rfl | exact arD fun _ => rfl | exact arC fun _ => rfl | exact ZcK fun x => (RowD.h (P := _) x).2 | ((repeat (first | exact alN | refine alC rfl ?_ | (refine alA ?_ ?_; (· first | exact arD fun _ => rfl | exact arC fun _ => rfl)))); done))) | ((repeat (first | exact rln | (refine rlc ?_ ?_; (· first | exact .dat rfl | exact .own _ rfl | exact .ptr _ _ _ rfl | exact .mref _ rfl | exact .row rfl | exact .nils _)) | (refine rla ?_ ?_; (· refine rld ?_; (first | rfl | exact arD fun _ => rfl | exact arC fun _ => rfl | exact ZcK fun x => (RowD.h (P := _) x).2 | ((repeat (first | exact alN | refine alC rfl ?_ | (refine alA ?_ ?_; (· first | exact arD fun _ => rfl | exact arC fun _ => rfl)))); done)))))); done))) | (refine JP ?_; (· first | exact rld rfl | (refine rld ?_; (· first | rfl | exact arD fun _ => rfl | exact arC fun _ => rfl | exact ZcK fun x => (RowD.h (P := _) x).2 | ((repeat (first | exact alN | refine alC rfl ?_ | (refine alA ?_ ?_; (· first | exact arD fun _ => rfl | exact arC fun _ => rfl)))); done))) | ((repeat (first | exact rln | (refine rlc ?_ ?_; (· first | exact .dat rfl | exact .own _ rfl | exact .ptr _ _ _ rfl | exact .mref _ rfl | exact .row rfl | exact .nils _)) | (refine rla ?_ ?_; (· refine rld ?_; (first | rfl | exact arD fun _ => rfl | exact arC fun _ => rfl | exact ZcK fun x => (RowD.h (P := _) x).2 | ((repeat (first | exact alN | refine alC rfl ?_ | (refine alA ?_ ?_; (· first | exact arD fun _ => rfl | exact arC fun _ => rfl)))); done)))))); done))) | (refine rFn ?_; (· first | exact rld rfl | (refine rld ?_; (· first | rfl | exact arD fun _ => rfl | exact arC fun _ => rfl | exact ZcK fun x => (RowD.h (P := _) x).2 | ((repeat (first | exact alN | refine alC rfl ?_ | (refine alA ?_ ?_; (· first | exact arD fun _ => rfl | exact arC fun _ => rfl)))); done))) | ((repeat (first | exact rln | (refine rlc ?_ ?_; (· first | exact .dat rfl | exact .own _ rfl | exact .ptr _ _ _ rfl | exact .mref _ rfl | exact .row rfl | exact .nils _)) | (refine rla ?_ ?_; (· refine rld ?_; (first | rfl | exact arD fun _ => rfl | exact arC fun _ => rfl | exact ZcK fun x => (RowD.h (P := _) x).2 | ((repeat (first | exact alN | refine alC rfl ?_ | (refine alA ?_ ?_; (· first | exact arD fun _ => rfl | exact arC fun _ => rfl)))); done)))))); done)))))))
    (hhp : SelHp c.P (ZaI s st.hp) st.hp s hp' := by repeat (first | exact .nil | (refine .cons rfl ?_ ?_; (· first | exact roM RowD.h | exact roE | (refine ro1 ?_ ?_; (· first | exact (SzD.h).symm | (refine Eq.trans ?_ (SzD.h).symm; (· simp))); (· first | exact rld rfl | (refine rld ?_; (· first | rfl | exact arD fun _ => rfl | exact arC fun _ => rfl | exact ZcK fun x => (RowD.h (P := _) x).2 | ((repeat (first | exact alN | refine alC rfl ?_ | (refine alA ?_ ?_; (· first | exact arD fun _ => rfl | exact arC fun _ => rfl)))); done))) | ((repeat (first | exact rln | (refine rlc ?_ ?_; (· first | exact .dat rfl | exact .own _ rfl | exact .ptr _ _ _ rfl | exact .mref _ rfl | exact .row rfl | exact .nils _)) | (refine rla ?_ ?_; (· refine rld ?_; (first | rfl | exact arD fun _ => rfl | exact arC fun _ => rfl | exact ZcK fun x => (RowD.h (P := _) x).2 | ((repeat (first | exact alN | refine alC rfl ?_ | (refine alA ?_ ?_; (· first | exact arD fun _ => rfl | exact arC fun _ => rfl)))); done)))))); done))))) | refine .dead ?_ | refine .row _ ?_))
    (hnd : dupL s hp' = true := by rfl) (hfx : Zat 0 c.n0 s = true := by rfl) : Ent c st ⟨tm', hp'⟩ := Ent.sel s htm hhp hnd hfx
end Go.Vx
