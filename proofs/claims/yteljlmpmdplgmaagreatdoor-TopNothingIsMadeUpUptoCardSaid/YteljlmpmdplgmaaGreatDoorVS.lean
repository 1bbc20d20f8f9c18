/- A text of the proof: a verified executor of the program form, or the contracts of the functions that the law reaches. -/
import Derived.Test.YteljlmpmdplgmaaGreatDoorVR
import Derived.Shelf.Slices.In.SortNone
import Derived.Test.YteljlmpmdplgmaaGreatDoorVH
import Derived.Test.YteljlmpmdplgmaaGreatDoorVK
import Derived.Test.YteljlmpmdplgmaaGreatDoorVP
set_option linter.all false
namespace Go.Vx
open Go Go.RowKit Go.Lib Go.Sort
def Zf1 (xs : List Int) : Option (List Int) := if xs.length < 4611686018427387904 then some (xs.mergeSort fun x y => decide (x ≤ y)) else none
theorem ZdZ {xs r : List Int} (h : Zf1 xs = some r) : r.length = xs.length := by
  unfold Zf1 at h
  split at h
  · cases h; simp
  · cases h
theorem Zmo {P : Program} {gl : Gl} {f e : Nat} {xs r : List Int} {g : Int → List AV} (hg : ∀ z, g z = [.int .i64 z]) (hc : callable P f = true) (he : P.cellsOf e = 1)
    (C : ∀ (blk off cap : Nat) (zs : List Int) (w : World), Holds (Value.int .i64) w blk off zs.toArray → blk < w.heap.size → zs.length < 4611686018427387904 →
      Calls P f #[.slice (some ⟨blk, off, none⟩) zs.length cap] w fun e w' => e = .returned (.tuple #[]) ∧ ∃ n os, w' = grow (putRow (Value.int .i64) (Sort.ahead w n) blk off (zs.mergeSort fun x y => decide (x ≤ y)).toArray) os)
    (C0 : ∀ (p : Option Addr) (cap : Nat) (w : World), Calls P f #[.slice p 0 cap] w fun e w' => e = .returned (.tuple #[]) ∧ w' = w)
    (h : Zf1 xs = some r) : GSpec P gl f [.own 0 xs.length] [some ⟨e, xs.map g⟩] (.tuple []) [some ⟨e, r.map g⟩] := by
  by_cases hne : xs = []
  · subst hne
    obtain rfl : r = [] := by
      have := ZdZ h
      exact List.eq_nil_of_length_eq_zero this
    refine ⟨hc, fun A W w φ vals hok hsz hr => ?_⟩
    have hO := hok.obj 0 _ rfl
    have h0 := hr 0 (by simp)
    have hx := Za6 h0 (by rw [hO.len]; simp)
    have hvals : vals = #[.slice ((φ 0).blk.map fun b => ⟨b, 0, none⟩) 0 (φ 0).cap] := by
      obtain ⟨l⟩ := vals
      match l, hsz with
      | [x], _ =>
        have e1 : x = .slice ((φ 0).blk.map fun b => ⟨b, 0, none⟩) 0 (φ 0).cap := hx
        rw [e1]
    rw [hvals]
    refine (C0 _ _ w).mono ?_
    rintro e' w' ⟨rfl, rfl⟩
    exact ⟨.tuple #[], φ, rfl, hok, Zz (.tuple [] #[] rfl fun i hi => by cases hi)⟩
  · refine ZlU hg hc he C ?_
    unfold Zf1 at h
    unfold Zi2
    split at h
    · rename_i hl
      rw [if_pos ⟨hne, hl⟩]; exact h
    · cases h
end Go.Vx

namespace Go.Vx
open Go Go.RowKit
theorem Y {α : Sort _} {a : α} : a = a := rfl
class SzD (P : Program) (e : TypeId) (n : outParam Nat) : Prop where
  h : P.cellsOf e = n
class RowD (P : Program) {α : Type} (e : TypeId) (f : α → List AV) : Prop where
  h : ∀ x, (f x).length = P.cellsOf e ∧ (f x).all datB = true
section
variable {c : Ctx} {ops : Array Oper} {st : St} {K : Exit → St → Prop} {dst : Option Tmp} {x y : Operand} {ty : TypeId} {pos : String} {after : Array Edge} {rest : List Oper} {o : Oper} {v P Q : AV}
theorem Rq (hd : dstLt o.dst c.nt = true) (hv : SVal c ops st o v) (h : R c ops rest (st.puto o.dst v) K) : R c ops (o :: rest) st K := R_q v hd hv h
theorem Rx {hp' : List (Option Own)} (hd : dstLt o.dst c.nt = true) (hv : WVal c ops st o v hp') (h : R c ops rest (St.puto ⟨st.tm, hp'⟩ o.dst v) K) : R c ops (o :: rest) st K := R_w v hp' hd hv h
theorem Rm (e : (dstLt dst c.nt, opv st.tm x) = (true, some v)) (k : R c ops rest (st.puto dst v) K) : R c ops (⟨dst, .move x, ty, pos, after, none⟩ :: rest) st K := R_q v (congrArg Prod.fst e) (Zd (ov (congrArg Prod.snd e))) k
theorem Ra (e : (dstLt dst c.nt, opv st.tm x) = (true, some v)) (k : R c ops rest (st.puto dst v) K) : R c ops (⟨dst, .assign x, ty, pos, after, none⟩ :: rest) st K := R_q v (congrArg Prod.fst e) (QE (ov (congrArg Prod.snd e))) k
theorem R1 (L : Opv c st x P → SVal c ops st o v) (e : (dstLt o.dst c.nt, opv st.tm x) = (true, some P)) (k : R c ops rest (st.puto o.dst v) K) : R c ops (o :: rest) st K := R_q v (congrArg Prod.fst e) (L (ov (congrArg Prod.snd e))) k
theorem R2 (L : Opv c st x P → Opv c st y Q → SVal c ops st o v) (e : (dstLt o.dst c.nt, opv st.tm x, opv st.tm y) = (true, some P, some Q)) (k : R c ops rest (st.puto o.dst v) K) : R c ops (o :: rest) st K :=
  R_q v (congrArg Prod.fst e) (L (ov (congrArg (·.2.1) e)) (ov (congrArg (·.2.2) e))) k
theorem Rl {α : Type} {f : α → List AV} {xs : List α} {t e sz by_ : Nat} (hsz : c.P.cellsOf e = sz) (ht : tSl c.P t e sz by_ = true) (e' : (dstLt dst c.nt, opv st.tm y) = (true, some (.sl e (xs.map f))))
    (k : R c ops rest (st.puto dst (.int .i64 (xs.length : Int))) K) : R c ops (⟨dst, .call { callee := .builtin .len, args := #[y], argTypes := #[t] }, ty, pos, after, none⟩ :: rest) st K :=
  R_q _ (congrArg Prod.fst e') (Zcj (ZE (ov (congrArg Prod.snd e')) hsz) ht (Jo _ _)) k
theorem Tr {id : Nat} {l : List Oper} {y : Code} (h : R c l.toArray l st (Zel (fun st' => T c y st' K) K)) : T c (.seq (.region id l.toArray false) y) st K := Zs (ZC h)
theorem Td (cw : Md) {id : Nat} {y : Code} (h : Dv cw c ops (KE c (Zel (fun st' => T c y st' K) K)) 0 st) (hm : c.P.follows .mixedOrders = true := by kernel_rfl) : T c (.seq (.region id ops true) y) st K := Zs (Zac (cw := cw) hm h)
theorem If {β γ : Type} {X Y : Option β} {k : β → Option γ} {r : γ} {t : Nat} {b : Bool} {x y : Code} (h : (if b = true then X else Y).bind k = some r) (hl : look st.tm t = some (.bool b))
    (h1 : X.bind k = some r → T c x st K) (h2 : Y.bind k = some r → T c y st K) : T c (.cond (.tmp t) x y) st K := Zk7 h hl (fun _ => h1) fun _ => h2
theorem bE {α β γ : Type} {k : β → Option γ} {r : γ} {G : Prop} {o : Option α} {f : α → Option β} (h : (o.bind f).bind k = some r) (g : ∀ x, o = some x → (f x).bind k = some r → G) : G := let ⟨x, h1, h2⟩ := bnd h; g x h1 h2
theorem Z2 {k : IntKind} {m n : Int} {t u : TypeId} (h : Opv c st x (.int k m)) (h' : Opv c st y (.int k n)) : SVal c ops st ⟨dst, .binOp .add t x y u, ty, pos, after, none⟩ (.int k (k.wrap (m + n))) := ZhD h h' rfl
theorem ZdT {k : IntKind} {m n : Int} {t u : TypeId} (h : Opv c st x (.int k m)) (h' : Opv c st y (.int k n)) : SVal c ops st ⟨dst, .binOp .sub t x y u, ty, pos, after, none⟩ (.int k (k.wrap (m - n))) := Zdv h h' rfl
theorem Zdz {k : IntKind} {m n : Int} {t u : TypeId} (h : Opv c st x (.int k m)) (h' : Opv c st y (.int k n)) : SVal c ops st ⟨dst, .binOp .mul t x y u, ty, pos, after, none⟩ (.int k (k.wrap (m * n))) := Zo4 h h' rfl
theorem rb {t : Nat} (e : (look st.tm t, datB v) = (some v, true)) : RetV c st (.tmp t) v := .tmp (congrArg Prod.fst e) (Dat.view (.b (congrArg Prod.snd e)))
end
theorem So {P : Program} {gl : Gl} {f : FuncId} {fn : Func} {code : Code} {args : List AV} {res : AV} (hf : P.funcs[f]? = some fn) (e : (fn.body, Nat.ble args.length fn.ntmps) = (some code, true))
    (hT : ∀ w0 A, T ⟨P, fn.ntmps, w0, A, [], gl, 0, φz⟩ code ⟨Zdw 0 args, []⟩ (Zot ⟨P, fn.ntmps, w0, A, [], gl, 0, φz⟩ fn.results res)) (hc : callable P f = true := by kernel_rfl) : CSpec P gl f args res := Zno hc hf (congrArg Prod.fst e) (congrArg Prod.snd e) hT

theorem K1 {c : Ctx} {code : Code} {st : St} {K : Exit → St → Prop} {a0 : AV} (i0 : Nat) (e : look st.tm i0 = some a0) (k : T c code ⟨[(i0, a0)], st.hp⟩ K) : T c code st K := Jz (.cons (e) rfl (.nil)) rfl k
theorem K2 {c : Ctx} {code : Code} {st : St} {K : Exit → St → Prop} {a0 a1 : AV} (i0 i1 : Nat) (e : (look st.tm i0, look st.tm i1) = (some a0, some a1)) (k : T c code ⟨[(i0, a0), (i1, a1)], st.hp⟩ K) : T c code st K := Jz (.cons (congrArg (·.1) e) rfl (.cons (congrArg (·.2) e) rfl (.nil))) rfl k
theorem K3 {c : Ctx} {code : Code} {st : St} {K : Exit → St → Prop} {a0 a1 a2 : AV} (i0 i1 i2 : Nat) (e : (look st.tm i0, look st.tm i1, look st.tm i2) = (some a0, some a1, some a2)) (k : T c code ⟨[(i0, a0), (i1, a1), (i2, a2)], st.hp⟩ K) : T c code st K := Jz (.cons (congrArg (·.1) e) rfl (.cons (congrArg (·.2.1) e) rfl (.cons (congrArg (·.2.2) e) rfl (.nil)))) rfl k
theorem K4 {c : Ctx} {code : Code} {st : St} {K : Exit → St → Prop} {a0 a1 a2 a3 : AV} (i0 i1 i2 i3 : Nat) (e : (look st.tm i0, look st.tm i1, look st.tm i2, look st.tm i3) = (some a0, some a1, some a2, some a3)) (k : T c code ⟨[(i0, a0), (i1, a1), (i2, a2), (i3, a3)], st.hp⟩ K) : T c code st K := Jz (.cons (congrArg (·.1) e) rfl (.cons (congrArg (·.2.1) e) rfl (.cons (congrArg (·.2.2.1) e) rfl (.cons (congrArg (·.2.2.2) e) rfl (.nil))))) rfl k
theorem K5 {c : Ctx} {code : Code} {st : St} {K : Exit → St → Prop} {a0 a1 a2 a3 a4 : AV} (i0 i1 i2 i3 i4 : Nat) (e : (look st.tm i0, look st.tm i1, look st.tm i2, look st.tm i3, look st.tm i4) = (some a0, some a1, some a2, some a3, some a4)) (k : T c code ⟨[(i0, a0), (i1, a1), (i2, a2), (i3, a3), (i4, a4)], st.hp⟩ K) : T c code st K := Jz (.cons (congrArg (·.1) e) rfl (.cons (congrArg (·.2.1) e) rfl (.cons (congrArg (·.2.2.1) e) rfl (.cons (congrArg (·.2.2.2.1) e) rfl (.cons (congrArg (·.2.2.2.2) e) rfl (.nil)))))) rfl k
theorem K6 {c : Ctx} {code : Code} {st : St} {K : Exit → St → Prop} {a0 a1 a2 a3 a4 a5 : AV} (i0 i1 i2 i3 i4 i5 : Nat) (e : (look st.tm i0, look st.tm i1, look st.tm i2, look st.tm i3, look st.tm i4, look st.tm i5) = (some a0, some a1, some a2, some a3, some a4, some a5)) (k : T c code ⟨[(i0, a0), (i1, a1), (i2, a2), (i3, a3), (i4, a4), (i5, a5)], st.hp⟩ K) : T c code st K := Jz (.cons (congrArg (·.1) e) rfl (.cons (congrArg (·.2.1) e) rfl (.cons (congrArg (·.2.2.1) e) rfl (.cons (congrArg (·.2.2.2.1) e) rfl (.cons (congrArg (·.2.2.2.2.1) e) rfl (.cons (congrArg (·.2.2.2.2.2) e) rfl (.nil))))))) rfl k
theorem K7 {c : Ctx} {code : Code} {st : St} {K : Exit → St → Prop} {a0 a1 a2 a3 a4 a5 a6 : AV} (i0 i1 i2 i3 i4 i5 i6 : Nat) (e : (look st.tm i0, look st.tm i1, look st.tm i2, look st.tm i3, look st.tm i4, look st.tm i5, look st.tm i6) = (some a0, some a1, some a2, some a3, some a4, some a5, some a6)) (k : T c code ⟨[(i0, a0), (i1, a1), (i2, a2), (i3, a3), (i4, a4), (i5, a5), (i6, a6)], st.hp⟩ K) : T c code st K := Jz (.cons (congrArg (·.1) e) rfl (.cons (congrArg (·.2.1) e) rfl (.cons (congrArg (·.2.2.1) e) rfl (.cons (congrArg (·.2.2.2.1) e) rfl (.cons (congrArg (·.2.2.2.2.1) e) rfl (.cons (congrArg (·.2.2.2.2.2.1) e) rfl (.cons (congrArg (·.2.2.2.2.2.2) e) rfl (.nil)))))))) rfl k
theorem K8 {c : Ctx} {code : Code} {st : St} {K : Exit → St → Prop} {a0 a1 a2 a3 a4 a5 a6 a7 : AV} (i0 i1 i2 i3 i4 i5 i6 i7 : Nat) (e : (look st.tm i0, look st.tm i1, look st.tm i2, look st.tm i3, look st.tm i4, look st.tm i5, look st.tm i6, look st.tm i7) = (some a0, some a1, some a2, some a3, some a4, some a5, some a6, some a7)) (k : T c code ⟨[(i0, a0), (i1, a1), (i2, a2), (i3, a3), (i4, a4), (i5, a5), (i6, a6), (i7, a7)], st.hp⟩ K) : T c code st K := Jz (.cons (congrArg (·.1) e) rfl (.cons (congrArg (·.2.1) e) rfl (.cons (congrArg (·.2.2.1) e) rfl (.cons (congrArg (·.2.2.2.1) e) rfl (.cons (congrArg (·.2.2.2.2.1) e) rfl (.cons (congrArg (·.2.2.2.2.2.1) e) rfl (.cons (congrArg (·.2.2.2.2.2.2.1) e) rfl (.cons (congrArg (·.2.2.2.2.2.2.2) e) rfl (.nil))))))))) rfl k
theorem K9 {c : Ctx} {code : Code} {st : St} {K : Exit → St → Prop} {a0 a1 a2 a3 a4 a5 a6 a7 a8 : AV} (i0 i1 i2 i3 i4 i5 i6 i7 i8 : Nat) (e : (look st.tm i0, look st.tm i1, look st.tm i2, look st.tm i3, look st.tm i4, look st.tm i5, look st.tm i6, look st.tm i7, look st.tm i8) = (some a0, some a1, some a2, some a3, some a4, some a5, some a6, some a7, some a8)) (k : T c code ⟨[(i0, a0), (i1, a1), (i2, a2), (i3, a3), (i4, a4), (i5, a5), (i6, a6), (i7, a7), (i8, a8)], st.hp⟩ K) : T c code st K := Jz (.cons (congrArg (·.1) e) rfl (.cons (congrArg (·.2.1) e) rfl (.cons (congrArg (·.2.2.1) e) rfl (.cons (congrArg (·.2.2.2.1) e) rfl (.cons (congrArg (·.2.2.2.2.1) e) rfl (.cons (congrArg (·.2.2.2.2.2.1) e) rfl (.cons (congrArg (·.2.2.2.2.2.2.1) e) rfl (.cons (congrArg (·.2.2.2.2.2.2.2.1) e) rfl (.cons (congrArg (·.2.2.2.2.2.2.2.2) e) rfl (.nil)))))))))) rfl k
theorem K10 {c : Ctx} {code : Code} {st : St} {K : Exit → St → Prop} {a0 a1 a2 a3 a4 a5 a6 a7 a8 a9 : AV} (i0 i1 i2 i3 i4 i5 i6 i7 i8 i9 : Nat) (e : (look st.tm i0, look st.tm i1, look st.tm i2, look st.tm i3, look st.tm i4, look st.tm i5, look st.tm i6, look st.tm i7, look st.tm i8, look st.tm i9) = (some a0, some a1, some a2, some a3, some a4, some a5, some a6, some a7, some a8, some a9)) (k : T c code ⟨[(i0, a0), (i1, a1), (i2, a2), (i3, a3), (i4, a4), (i5, a5), (i6, a6), (i7, a7), (i8, a8), (i9, a9)], st.hp⟩ K) : T c code st K := Jz (.cons (congrArg (·.1) e) rfl (.cons (congrArg (·.2.1) e) rfl (.cons (congrArg (·.2.2.1) e) rfl (.cons (congrArg (·.2.2.2.1) e) rfl (.cons (congrArg (·.2.2.2.2.1) e) rfl (.cons (congrArg (·.2.2.2.2.2.1) e) rfl (.cons (congrArg (·.2.2.2.2.2.2.1) e) rfl (.cons (congrArg (·.2.2.2.2.2.2.2.1) e) rfl (.cons (congrArg (·.2.2.2.2.2.2.2.2.1) e) rfl (.cons (congrArg (·.2.2.2.2.2.2.2.2.2) e) rfl (.nil))))))))))) rfl k
theorem K11 {c : Ctx} {code : Code} {st : St} {K : Exit → St → Prop} {a0 a1 a2 a3 a4 a5 a6 a7 a8 a9 a10 : AV} (i0 i1 i2 i3 i4 i5 i6 i7 i8 i9 i10 : Nat) (e : (look st.tm i0, look st.tm i1, look st.tm i2, look st.tm i3, look st.tm i4, look st.tm i5, look st.tm i6, look st.tm i7, look st.tm i8, look st.tm i9, look st.tm i10) = (some a0, some a1, some a2, some a3, some a4, some a5, some a6, some a7, some a8, some a9, some a10)) (k : T c code ⟨[(i0, a0), (i1, a1), (i2, a2), (i3, a3), (i4, a4), (i5, a5), (i6, a6), (i7, a7), (i8, a8), (i9, a9), (i10, a10)], st.hp⟩ K) : T c code st K := Jz (.cons (congrArg (·.1) e) rfl (.cons (congrArg (·.2.1) e) rfl (.cons (congrArg (·.2.2.1) e) rfl (.cons (congrArg (·.2.2.2.1) e) rfl (.cons (congrArg (·.2.2.2.2.1) e) rfl (.cons (congrArg (·.2.2.2.2.2.1) e) rfl (.cons (congrArg (·.2.2.2.2.2.2.1) e) rfl (.cons (congrArg (·.2.2.2.2.2.2.2.1) e) rfl (.cons (congrArg (·.2.2.2.2.2.2.2.2.1) e) rfl (.cons (congrArg (·.2.2.2.2.2.2.2.2.2.1) e) rfl (.cons (congrArg (·.2.2.2.2.2.2.2.2.2.2) e) rfl (.nil)))))))))))) rfl k
theorem K12 {c : Ctx} {code : Code} {st : St} {K : Exit → St → Prop} {a0 a1 a2 a3 a4 a5 a6 a7 a8 a9 a10 a11 : AV} (i0 i1 i2 i3 i4 i5 i6 i7 i8 i9 i10 i11 : Nat) (e : (look st.tm i0, look st.tm i1, look st.tm i2, look st.tm i3, look st.tm i4, look st.tm i5, look st.tm i6, look st.tm i7, look st.tm i8, look st.tm i9, look st.tm i10, look st.tm i11) = (some a0, some a1, some a2, some a3, some a4, some a5, some a6, some a7, some a8, some a9, some a10, some a11)) (k : T c code ⟨[(i0, a0), (i1, a1), (i2, a2), (i3, a3), (i4, a4), (i5, a5), (i6, a6), (i7, a7), (i8, a8), (i9, a9), (i10, a10), (i11, a11)], st.hp⟩ K) : T c code st K := Jz (.cons (congrArg (·.1) e) rfl (.cons (congrArg (·.2.1) e) rfl (.cons (congrArg (·.2.2.1) e) rfl (.cons (congrArg (·.2.2.2.1) e) rfl (.cons (congrArg (·.2.2.2.2.1) e) rfl (.cons (congrArg (·.2.2.2.2.2.1) e) rfl (.cons (congrArg (·.2.2.2.2.2.2.1) e) rfl (.cons (congrArg (·.2.2.2.2.2.2.2.1) e) rfl (.cons (congrArg (·.2.2.2.2.2.2.2.2.1) e) rfl (.cons (congrArg (·.2.2.2.2.2.2.2.2.2.1) e) rfl (.cons (congrArg (·.2.2.2.2.2.2.2.2.2.2.1) e) rfl (.cons (congrArg (·.2.2.2.2.2.2.2.2.2.2.2) e) rfl (.nil))))))))))))) rfl k
theorem K0 {c : Ctx} {code : Code} {st : St} {K : Exit → St → Prop} (k : T c code ⟨[], st.hp⟩ K) : T c code st K := Jz .nil rfl k
theorem J0 {τ β γ : Type} {c : Ctx} {st : St} {K : Exit → St → Prop} {k : β → Option γ} {r : γ} {G : τ → Option β} {X : Option τ} {x y : Code} (inj : (Unit) → τ) (J : St) (h : (X.bind G).bind k = some r)
    (hx : X.bind (fun o => (G o).bind k) = some r → T c x st (Zel (fun st' => ∃ i, (G (inj i)).bind k = some r ∧ Ent c st' (t0 J i)) K))
    (ky : (G (inj ())).bind k = some r → T c y (J) K) : T c (.seq x y) st K :=
  ZgA inj (t0 J) h hx fun i h => ky h
theorem L1 {ρ : Type} {α0 : Type} {c : Ctx} {code : Code} {st : St} {K : Exit → St → Prop} {body : (α0) → Option ((α0) ⊕ ρ)} (I : α0 → St) {s0 : α0} {r : ρ} (h : loop body s0 = some r) (h0 : Ent c st (t1 I s0))
    (hr : ∀ (n : Nat) (a0 : α0), (body a0).bind (Sum.elim (Zcp body n) some) = some r → T c code (I a0) (Zel (fun st' => ∃ s', Zcp body n s' = some r ∧ Ent c st' (t1 I s')) K)) : T c (.loop code) st K :=
  Zid body (t1 I) s0 h h0 fun n s h => hr n s h
theorem J1 {τ β γ : Type} {α0 : Type} {c : Ctx} {st : St} {K : Exit → St → Prop} {k : β → Option γ} {r : γ} {G : τ → Option β} {X : Option τ} {x y : Code} (inj : (α0) → τ) (J : α0 → St) (h : (X.bind G).bind k = some r)
    (hx : X.bind (fun o => (G o).bind k) = some r → T c x st (Zel (fun st' => ∃ i, (G (inj i)).bind k = some r ∧ Ent c st' (t1 J i)) K))
    (ky : ∀ (a0 : α0), (G (inj a0)).bind k = some r → T c y (J a0) K) : T c (.seq x y) st K :=
  ZgA inj (t1 J) h hx fun i h => ky i h
theorem I1 {β γ : Type} {α0 : Type} {c : Ctx} {st : St} {K : Exit → St → Prop} {k : β → Option γ} {r : γ} {g : α0 → Option β} {X : Option (α0)} {x y : Code} (J : α0 → St) (h : (X.bind (t1 g)).bind k = some r)
    (hx : X.bind (fun o => (t1 g o).bind k) = some r → T c x st (Zel (fun st' => ∃ i, (t1 g i).bind k = some r ∧ Ent c st' (t1 J i)) K))
    (ky : ∀ (a0 : α0), (g a0).bind k = some r → T c y (J a0) K) : T c (.seq x y) st K :=
  ZgA (G := t1 g) id (t1 J) h hx fun i h => ky i h
theorem L2 {ρ : Type} {α0 α1 : Type} {c : Ctx} {code : Code} {st : St} {K : Exit → St → Prop} {body : (α0 × α1) → Option ((α0 × α1) ⊕ ρ)} (I : α0 → α1 → St) {s0 : α0 × α1} {r : ρ} (h : loop body s0 = some r) (h0 : Ent c st (t2 I s0))
    (hr : ∀ (n : Nat) (a0 : α0) (a1 : α1), (body (a0, a1)).bind (Sum.elim (Zcp body n) some) = some r → T c code (I a0 a1) (Zel (fun st' => ∃ s', Zcp body n s' = some r ∧ Ent c st' (t2 I s')) K)) : T c (.loop code) st K :=
  Zid body (t2 I) s0 h h0 fun n s h => hr n (s.1) (s.2) h
theorem I2 {β γ : Type} {α0 α1 : Type} {c : Ctx} {st : St} {K : Exit → St → Prop} {k : β → Option γ} {r : γ} {g : α0 → α1 → Option β} {X : Option (α0 × α1)} {x y : Code} (J : α0 → α1 → St) (h : (X.bind (t2 g)).bind k = some r)
    (hx : X.bind (fun o => (t2 g o).bind k) = some r → T c x st (Zel (fun st' => ∃ i, (t2 g i).bind k = some r ∧ Ent c st' (t2 J i)) K))
    (ky : ∀ (a0 : α0) (a1 : α1), (g a0 a1).bind k = some r → T c y (J a0 a1) K) : T c (.seq x y) st K :=
  ZgA (G := t2 g) id (t2 J) h hx fun i h => ky (i.1) (i.2) h
theorem L3 {ρ : Type} {α0 α1 α2 : Type} {c : Ctx} {code : Code} {st : St} {K : Exit → St → Prop} {body : (α0 × α1 × α2) → Option ((α0 × α1 × α2) ⊕ ρ)} (I : α0 → α1 → α2 → St) {s0 : α0 × α1 × α2} {r : ρ} (h : loop body s0 = some r) (h0 : Ent c st (t3 I s0))
    (hr : ∀ (n : Nat) (a0 : α0) (a1 : α1) (a2 : α2), (body (a0, a1, a2)).bind (Sum.elim (Zcp body n) some) = some r → T c code (I a0 a1 a2) (Zel (fun st' => ∃ s', Zcp body n s' = some r ∧ Ent c st' (t3 I s')) K)) : T c (.loop code) st K :=
  Zid body (t3 I) s0 h h0 fun n s h => hr n (s.1) (s.2.1) (s.2.2) h
section
variable {cw : Md} {c : Ctx} {ops : Array Oper} {m : Nat} {st : St} {K : Exit → St → Prop} {dst : Option Tmp} {x y : Operand} {ty : TypeId} {pos : String} {after : Array Edge} {o o' : Oper} {v v' P Q : AV} {hp' : List (Option Own)}
theorem Dq (i : Nat) (e : (ops[i]?, dstLt o.dst c.nt, noWrite cw.cw o.op) = (some o, true, true)) (h : SVal c ops ⟨restr st.tm (o.looksAt ops), st.hp⟩ o v) (k : Dv cw c ops (KE c K) (setBit m i) (st.puto o.dst v))
    (ht : takeQ cw ops m i = true := by kernel_rfl) : Dv cw c ops (KE c K) m st := Zin i v (congrArg Prod.fst e) ht (congrArg (·.2.1) e) (congrArg (·.2.2) e) h k
theorem D1 (i : Nat) (L : Opv c ⟨restr st.tm (o.looksAt ops), st.hp⟩ x P → SVal c ops ⟨restr st.tm (o.looksAt ops), st.hp⟩ o v) (e : (ops[i]?, dstLt o.dst c.nt, noWrite cw.cw o.op, opv (restr st.tm (o.looksAt ops)) x) = (some o, true, true, some P))
    (k : Dv cw c ops (KE c K) (setBit m i) (st.puto o.dst v)) (ht : takeQ cw ops m i = true := by kernel_rfl) : Dv cw c ops (KE c K) m st := Zin i v (congrArg Prod.fst e) ht (congrArg (·.2.1) e) (congrArg (·.2.2.1) e) (L (ov (congrArg (·.2.2.2) e))) k
theorem D2 (i : Nat) (L : Opv c ⟨restr st.tm (o.looksAt ops), st.hp⟩ x P → Opv c ⟨restr st.tm (o.looksAt ops), st.hp⟩ y Q → SVal c ops ⟨restr st.tm (o.looksAt ops), st.hp⟩ o v)
    (e : (ops[i]?, dstLt o.dst c.nt, noWrite cw.cw o.op, opv (restr st.tm (o.looksAt ops)) x, opv (restr st.tm (o.looksAt ops)) y) = (some o, true, true, some P, some Q))
    (k : Dv cw c ops (KE c K) (setBit m i) (st.puto o.dst v)) (ht : takeQ cw ops m i = true := by kernel_rfl) : Dv cw c ops (KE c K) m st :=
  Zin i v (congrArg Prod.fst e) ht (congrArg (·.2.1) e) (congrArg (·.2.2.1) e) (L (ov (congrArg (·.2.2.2.1) e)) (ov (congrArg (·.2.2.2.2) e))) k
theorem Do (i : Nat) (e : (ops[i]?, dstLt o.dst c.nt, noWrite cw.cw o.op) = (some o, true, false)) (h : WVal c ops ⟨restr st.tm (o.looksAt ops), st.hp⟩ o v hp') (k : Dv cw c ops (KE c K) (setBit m i) (St.puto ⟨st.tm, hp'⟩ o.dst v)) (ht : onlyAt ops m i = true := by kernel_rfl)
    (hx : extOp o.op = true → Ext st.hp hp' := by intro h; cases h) (hy : cw.fr = true → ExtW cw.wl cw.base hp' := by intro h; cases h) : Dv cw c ops (KE c K) m st := ZlS i v hp' (congrArg Prod.fst e) ht (congrArg (·.2.1) e) (congrArg (·.2.2) e) hx hy h k
theorem Dw (i j : Nat) (e : (ops[i]?, ops[j]?, dstLt o.dst c.nt, dstLt o'.dst c.nt, noWrite cw.cw o.op, noWrite cw.cw o'.op) = (some o, some o', true, true, true, false))
    (h : SVal c ops ⟨restr st.tm (o.looksAt ops), st.hp⟩ o v) (h' : WVal c ops ⟨restr st.tm (o'.looksAt ops), st.hp⟩ o' v' hp')
    (k : Dv cw c ops (KE c K) (setBit m i) (st.puto o.dst v)) (k' : Dv cw c ops (KE c K) (setBit m j) (St.puto ⟨st.tm, hp'⟩ o'.dst v')) (ht : Zl4 ops m i j = true := by kernel_rfl)
    (hx' : extOp o'.op = true → Ext st.hp hp' := by intro h; cases h) (hy' : cw.fr = true → ExtW cw.wl cw.base hp' := by intro h; cases h) : Dv cw c ops (KE c K) m st :=
  Zof i j (congrArg (·.1) e) (congrArg (·.2.1) e) ht (congrArg (·.2.2.1) e) (congrArg (·.2.2.2.1) e) (congrArg (·.2.2.2.2.1) e) (congrArg (·.2.2.2.2.2) e) hx' hy' h h' k k'
theorem Dd (k : K .normal st) (h : Zia ops m = true := by kernel_rfl) : Dv cw c ops (KE c K) m st := Zoz h k
end
theorem ES {c : Ctx} {st : St} {tm' : List (Nat × AV)} {hp' : List (Option Own)} (s : List (Option Nat))
    (htm : SelTm (Ze1 s st.hp) st.tm tm' := by repeat (first | exact sn | refine sd _ rfl rfl ?_ | (refine sr _ rfl ?_ ?_; (· first | exact .dat rfl | exact .own _ rfl | exact .ptr _ _ _ rfl | exact .mref _ rfl | exact .row rfl | exact .nils _ | (refine ZoF ?_; (· first | exact rld rfl | (refine rld ?_; (· first | rfl | exact arD fun _ => rfl | exact arC fun _ => rfl | exact Zi0 fun x => (RowD.h (P := _) x).2 | ((repeat (first | exact alN | refine alC rfl ?_ | (refine alA ?_ ?_; (· first | exact arD fun _ => rfl | exact arC fun _ => rfl)))); done))) | ((repeat (first | exact rln | (refine rlc ?_ ?_; (· first | exact .dat rfl | exact .own _ rfl | exact .ptr _ _ _ rfl | exact .mref _ rfl | exact .row rfl | exact .nils _)) | (refine rla ?_ ?_; (· refine rld ?_; (first | rfl | exact arD fun _ => rfl | exact arC fun _ => rfl | exact Zi0 fun x => (RowD.h (P := _) x).2 | ((repeat (first | exact alN | refine alC rfl ?_ | (refine alA ?_ ?_; (· first | exact arD fun _ => rfl | exact arC fun _ => rfl)))); done)))))); done))) | (refine ZgF ?_; (· first | exact rld rfl | (refine rld ?_; (· first | rfl | exact arD fun _ => rfl | exact arC fun _ => rfl | exact Zi0 fun x => (RowD.h (P := _) x).2 | ((repeat (first | exact alN | refine alC rfl ?_ | (refine alA ?_ ?_; (· first | exact arD fun _ => rfl | exact arC fun _ => rfl)))); done))) | ((repeat (first | exact rln | (refine rlc ?_ ?_; (· first | exact .dat rfl | exact .own _ rfl | exact .ptr _ _ _ rfl | exact .mref _ rfl | exact .row rfl | exact .nils _)) | (refine rla ?_ ?_; (· refine rld ?_; (first | rfl | exact arD fun _ => rfl | exact arC fun _ => rfl | exact Zi0 fun x => (RowD.h (P := _) x).2 | ((repeat (first | exact alN | refine alC rfl ?_ | (refine alA ?_ ?_; (· first | exact arD fun _ => rfl | exact arC fun _ => rfl)))); done)))))); done))) | (refine rFn ?_; (· first | exact rld rfl | (refine rld ?_; (· first | rfl | exact arD fun _ => rfl | exact arC fun _ => rfl | exact Zi0 fun x => (RowD.h (P := _) x).2 | ((repeat (first | exact alN | refine alC rfl ?_ | (refine alA ?_ ?_; (· first | exact arD fun _ => rfl | exact arC fun _ => rfl)))); done))) | ((repeat (first | exact rln | (refine rlc ?_ ?_; (· first | exact .dat rfl | exact .own _ rfl | exact .ptr _ _ _ rfl | exact .mref _ rfl | exact .row rfl | exact .nils _)) | (refine rla ?_ ?_; (· refine rld ?_; (first | rfl | exact arD fun _ => rfl | exact arC fun _ => rfl | exact Zi0 fun x => (RowD.h (P := _) x).2 | ((repeat (first | exact alN | refine alC rfl ?_ | (refine alA ?_ ?_; (· first | exact arD fun _ => rfl | exact arC fun _ => rfl)))); done)))))); done)))))))
    (hhp : SelHp c.P (Ze1 s st.hp) st.hp s hp' := by repeat (first | exact .nil | (refine .cons rfl ?_ ?_; (· first | exact roM RowD.h | exact roE | (refine ro1 ?_ ?_; (· first | exact (SzD.h).symm | (refine Eq.trans ?_ (SzD.h).symm; (· simp))); (· first | exact rld rfl | (refine rld ?_; (· first | rfl | exact arD fun _ => rfl | exact arC fun _ => rfl | exact Zi0 fun x => (RowD.h (P := _) x).2 | ((repeat (first | exact alN | refine alC rfl ?_ | (refine alA ?_ ?_; (· first | exact arD fun _ => rfl | exact arC fun _ => rfl)))); done))) | ((repeat (first | exact rln | (refine rlc ?_ ?_; (· first | exact .dat rfl | exact .own _ rfl | exact .ptr _ _ _ rfl | exact .mref _ rfl | exact .row rfl | exact .nils _)) | (refine rla ?_ ?_; (· refine rld ?_; (first | rfl | exact arD fun _ => rfl | exact arC fun _ => rfl | exact Zi0 fun x => (RowD.h (P := _) x).2 | ((repeat (first | exact alN | refine alC rfl ?_ | (refine alA ?_ ?_; (· first | exact arD fun _ => rfl | exact arC fun _ => rfl)))); done)))))); done))))) | refine .dead ?_ | refine .row _ ?_))
    (hnd : dupL s hp' = true := by rfl) (hfx : ZeR 0 c.n0 s = true := by rfl) : Ent c st ⟨tm', hp'⟩ := Ent.sel s htm hhp hnd hfx
end Go.Vx
