/- A text of the proof: a verified executor of the program form, or the contracts of the functions that the law reaches. -/
import Derived.Test.YtnlmjeleocelgaaGreatDoorVH
import Derived.Test.YtnlmjeleocelgaaGreatDoorVK
import Derived.Test.YtnlmjeleocelgaaGreatDoorVP
import Derived.Test.YtnlmjeleocelgaaGreatDoorVS
set_option linter.all false
namespace Go.Vx
open Go Go.RowKit
theorem Y {α : Sort _} {a : α} : a = a := rfl
class SzD (P : Program) (e : TypeId) (n : outParam Nat) : Prop where
  h : P.cellsOf e = n
class RowD (P : Program) {α : Type} (e : TypeId) (f : α → List AV) : Prop where
  h : ∀ x, (f x).length = P.cellsOf e ∧ (f x).all datB = true
section
variable {c : Ctx} {ops : Array Oper} {st : St} {K : Exit → St → Prop} {dst : Option Tmp} {x y : Operand} {ty : TypeId} {pos : String} {after : Array Edge} {rest : List Oper} {o : Oper} {v P Q : AV}
theorem Rq (hd : dstLt o.dst c.nt = true) (hv : SVal c ops st o v) (h : R c ops rest (st.puto o.dst v) K) : R c ops (o :: rest) st K := R_q v hd hv h
theorem Rx {hp' : List (Option Own)} (hd : dstLt o.dst c.nt = true) (hv : WVal c ops st o v hp') (h : R c ops rest (St.puto ⟨st.tm, hp'⟩ o.dst v) K) : R c ops (o :: rest) st K := R_w v hp' hd hv h
theorem Rm (e : (dstLt dst c.nt, opv st.tm x) = (true, some v)) (k : R c ops rest (st.puto dst v) K) : R c ops (⟨dst, .move x, ty, pos, after, none⟩ :: rest) st K := R_q v (congrArg Prod.fst e) (Zc (ov (congrArg Prod.snd e))) k
theorem Ra (e : (dstLt dst c.nt, opv st.tm x) = (true, some v)) (k : R c ops rest (st.puto dst v) K) : R c ops (⟨dst, .assign x, ty, pos, after, none⟩ :: rest) st K := R_q v (congrArg Prod.fst e) (Ql (ov (congrArg Prod.snd e))) k
theorem R1 (L : Opv c st x P → SVal c ops st o v) (e : (dstLt o.dst c.nt, opv st.tm x) = (true, some P)) (k : R c ops rest (st.puto o.dst v) K) : R c ops (o :: rest) st K := R_q v (congrArg Prod.fst e) (L (ov (congrArg Prod.snd e))) k
theorem R2 (L : Opv c st x P → Opv c st y Q → SVal c ops st o v) (e : (dstLt o.dst c.nt, opv st.tm x, opv st.tm y) = (true, some P, some Q)) (k : R c ops rest (st.puto o.dst v) K) : R c ops (o :: rest) st K :=
  R_q v (congrArg Prod.fst e) (L (ov (congrArg (·.2.1) e)) (ov (congrArg (·.2.2) e))) k
theorem Rl {α : Type} {f : α → List AV} {xs : List α} {t e sz by_ : Nat} (hsz : c.P.cellsOf e = sz) (ht : tSl c.P t e sz by_ = true) (e' : (dstLt dst c.nt, opv st.tm y) = (true, some (.sl e (xs.map f))))
    (k : R c ops rest (st.puto dst (.int .i64 (xs.length : Int))) K) : R c ops (⟨dst, .call { callee := .builtin .len, args := #[y], argTypes := #[t] }, ty, pos, after, none⟩ :: rest) st K :=
  R_q _ (congrArg Prod.fst e') (Zii (Qs (ov (congrArg Prod.snd e')) hsz) ht (Zek _ _)) k
theorem Tr {id : Nat} {l : List Oper} {y : Code} (h : R c l.toArray l st (ZeX (fun st' => T c y st' K) K)) : T c (.seq (.region id l.toArray false) y) st K := Zh (Zr h)
theorem If {β γ : Type} {X Y : Option β} {k : β → Option γ} {r : γ} {t : Nat} {b : Bool} {x y : Code} (h : (if b = true then X else Y).bind k = some r) (hl : look st.tm t = some (.bool b))
    (h1 : X.bind k = some r → T c x st K) (h2 : Y.bind k = some r → T c y st K) : T c (.cond (.tmp t) x y) st K := Zn2 h hl (fun _ => h1) fun _ => h2
theorem bE {α β γ : Type} {k : β → Option γ} {r : γ} {G : Prop} {o : Option α} {f : α → Option β} (h : (o.bind f).bind k = some r) (g : ∀ x, o = some x → (f x).bind k = some r → G) : G := let ⟨x, h1, h2⟩ := bnd h; g x h1 h2
theorem ZT {k : IntKind} {m n : Int} {t u : TypeId} (h : Opv c st x (.int k m)) (h' : Opv c st y (.int k n)) : SVal c ops st ⟨dst, .binOp .add t x y u, ty, pos, after, none⟩ (.int k (k.wrap (m + n))) := ZiH h h' rfl
theorem Zay {k : IntKind} {m n : Int} {t u : TypeId} (h : Opv c st x (.int k m)) (h' : Opv c st y (.int k n)) : SVal c ops st ⟨dst, .binOp .sub t x y u, ty, pos, after, none⟩ (.int k (k.wrap (m - n))) := ZkB h h' rfl
theorem Ze0 {k : IntKind} {m n : Int} {t u : TypeId} (h : Opv c st x (.int k m)) (h' : Opv c st y (.int k n)) : SVal c ops st ⟨dst, .binOp .mul t x y u, ty, pos, after, none⟩ (.int k (k.wrap (m * n))) := Zmy h h' rfl
theorem rb {t : Nat} (e : (look st.tm t, datB v) = (some v, true)) : RetV c st (.tmp t) v := .tmp (congrArg Prod.fst e) (Dat.view (.b (congrArg Prod.snd e)))
end
theorem So {P : Program} {gl : Gl} {f : FuncId} {fn : Func} {code : Code} {args : List AV} {res : AV} (hf : P.funcs[f]? = some fn) (e : (fn.body, Nat.ble args.length fn.ntmps) = (some code, true))
    (hT : ∀ w0 A, T ⟨P, fn.ntmps, w0, A, [], gl, 0, φz⟩ code ⟨Zhq 0 args, []⟩ (Znd ⟨P, fn.ntmps, w0, A, [], gl, 0, φz⟩ fn.results res)) (hc : callable P f = true := by kernel_rfl) : CSpec P gl f args res := Zl6 hc hf (congrArg Prod.fst e) (congrArg Prod.snd e) hT

theorem K1 {c : Ctx} {code : Code} {st : St} {K : Exit → St → Prop} {a0 : AV} (i0 : Nat) (e : look st.tm i0 = some a0) (k : T c code ⟨[(i0, a0)], st.hp⟩ K) : T c code st K := Je (.cons (e) rfl (.nil)) rfl k
theorem K2 {c : Ctx} {code : Code} {st : St} {K : Exit → St → Prop} {a0 a1 : AV} (i0 i1 : Nat) (e : (look st.tm i0, look st.tm i1) = (some a0, some a1)) (k : T c code ⟨[(i0, a0), (i1, a1)], st.hp⟩ K) : T c code st K := Je (.cons (congrArg (·.1) e) rfl (.cons (congrArg (·.2) e) rfl (.nil))) rfl k
theorem K3 {c : Ctx} {code : Code} {st : St} {K : Exit → St → Prop} {a0 a1 a2 : AV} (i0 i1 i2 : Nat) (e : (look st.tm i0, look st.tm i1, look st.tm i2) = (some a0, some a1, some a2)) (k : T c code ⟨[(i0, a0), (i1, a1), (i2, a2)], st.hp⟩ K) : T c code st K := Je (.cons (congrArg (·.1) e) rfl (.cons (congrArg (·.2.1) e) rfl (.cons (congrArg (·.2.2) e) rfl (.nil)))) rfl k
theorem K4 {c : Ctx} {code : Code} {st : St} {K : Exit → St → Prop} {a0 a1 a2 a3 : AV} (i0 i1 i2 i3 : Nat) (e : (look st.tm i0, look st.tm i1, look st.tm i2, look st.tm i3) = (some a0, some a1, some a2, some a3)) (k : T c code ⟨[(i0, a0), (i1, a1), (i2, a2), (i3, a3)], st.hp⟩ K) : T c code st K := Je (.cons (congrArg (·.1) e) rfl (.cons (congrArg (·.2.1) e) rfl (.cons (congrArg (·.2.2.1) e) rfl (.cons (congrArg (·.2.2.2) e) rfl (.nil))))) rfl k
theorem K5 {c : Ctx} {code : Code} {st : St} {K : Exit → St → Prop} {a0 a1 a2 a3 a4 : AV} (i0 i1 i2 i3 i4 : Nat) (e : (look st.tm i0, look st.tm i1, look st.tm i2, look st.tm i3, look st.tm i4) = (some a0, some a1, some a2, some a3, some a4)) (k : T c code ⟨[(i0, a0), (i1, a1), (i2, a2), (i3, a3), (i4, a4)], st.hp⟩ K) : T c code st K := Je (.cons (congrArg (·.1) e) rfl (.cons (congrArg (·.2.1) e) rfl (.cons (congrArg (·.2.2.1) e) rfl (.cons (congrArg (·.2.2.2.1) e) rfl (.cons (congrArg (·.2.2.2.2) e) rfl (.nil)))))) rfl k
theorem K6 {c : Ctx} {code : Code} {st : St} {K : Exit → St → Prop} {a0 a1 a2 a3 a4 a5 : AV} (i0 i1 i2 i3 i4 i5 : Nat) (e : (look st.tm i0, look st.tm i1, look st.tm i2, look st.tm i3, look st.tm i4, look st.tm i5) = (some a0, some a1, some a2, some a3, some a4, some a5)) (k : T c code ⟨[(i0, a0), (i1, a1), (i2, a2), (i3, a3), (i4, a4), (i5, a5)], st.hp⟩ K) : T c code st K := Je (.cons (congrArg (·.1) e) rfl (.cons (congrArg (·.2.1) e) rfl (.cons (congrArg (·.2.2.1) e) rfl (.cons (congrArg (·.2.2.2.1) e) rfl (.cons (congrArg (·.2.2.2.2.1) e) rfl (.cons (congrArg (·.2.2.2.2.2) e) rfl (.nil))))))) rfl k
theorem K7 {c : Ctx} {code : Code} {st : St} {K : Exit → St → Prop} {a0 a1 a2 a3 a4 a5 a6 : AV} (i0 i1 i2 i3 i4 i5 i6 : Nat) (e : (look st.tm i0, look st.tm i1, look st.tm i2, look st.tm i3, look st.tm i4, look st.tm i5, look st.tm i6) = (some a0, some a1, some a2, some a3, some a4, some a5, some a6)) (k : T c code ⟨[(i0, a0), (i1, a1), (i2, a2), (i3, a3), (i4, a4), (i5, a5), (i6, a6)], st.hp⟩ K) : T c code st K := Je (.cons (congrArg (·.1) e) rfl (.cons (congrArg (·.2.1) e) rfl (.cons (congrArg (·.2.2.1) e) rfl (.cons (congrArg (·.2.2.2.1) e) rfl (.cons (congrArg (·.2.2.2.2.1) e) rfl (.cons (congrArg (·.2.2.2.2.2.1) e) rfl (.cons (congrArg (·.2.2.2.2.2.2) e) rfl (.nil)))))))) rfl k
theorem K8 {c : Ctx} {code : Code} {st : St} {K : Exit → St → Prop} {a0 a1 a2 a3 a4 a5 a6 a7 : AV} (i0 i1 i2 i3 i4 i5 i6 i7 : Nat) (e : (look st.tm i0, look st.tm i1, look st.tm i2, look st.tm i3, look st.tm i4, look st.tm i5, look st.tm i6, look st.tm i7) = (some a0, some a1, some a2, some a3, some a4, some a5, some a6, some a7)) (k : T c code ⟨[(i0, a0), (i1, a1), (i2, a2), (i3, a3), (i4, a4), (i5, a5), (i6, a6), (i7, a7)], st.hp⟩ K) : T c code st K := Je (.cons (congrArg (·.1) e) rfl (.cons (congrArg (·.2.1) e) rfl (.cons (congrArg (·.2.2.1) e) rfl (.cons (congrArg (·.2.2.2.1) e) rfl (.cons (congrArg (·.2.2.2.2.1) e) rfl (.cons (congrArg (·.2.2.2.2.2.1) e) rfl (.cons (congrArg (·.2.2.2.2.2.2.1) e) rfl (.cons (congrArg (·.2.2.2.2.2.2.2) e) rfl (.nil))))))))) rfl k
theorem K9 {c : Ctx} {code : Code} {st : St} {K : Exit → St → Prop} {a0 a1 a2 a3 a4 a5 a6 a7 a8 : AV} (i0 i1 i2 i3 i4 i5 i6 i7 i8 : Nat) (e : (look st.tm i0, look st.tm i1, look st.tm i2, look st.tm i3, look st.tm i4, look st.tm i5, look st.tm i6, look st.tm i7, look st.tm i8) = (some a0, some a1, some a2, some a3, some a4, some a5, some a6, some a7, some a8)) (k : T c code ⟨[(i0, a0), (i1, a1), (i2, a2), (i3, a3), (i4, a4), (i5, a5), (i6, a6), (i7, a7), (i8, a8)], st.hp⟩ K) : T c code st K := Je (.cons (congrArg (·.1) e) rfl (.cons (congrArg (·.2.1) e) rfl (.cons (congrArg (·.2.2.1) e) rfl (.cons (congrArg (·.2.2.2.1) e) rfl (.cons (congrArg (·.2.2.2.2.1) e) rfl (.cons (congrArg (·.2.2.2.2.2.1) e) rfl (.cons (congrArg (·.2.2.2.2.2.2.1) e) rfl (.cons (congrArg (·.2.2.2.2.2.2.2.1) e) rfl (.cons (congrArg (·.2.2.2.2.2.2.2.2) e) rfl (.nil)))))))))) rfl k
theorem K10 {c : Ctx} {code : Code} {st : St} {K : Exit → St → Prop} {a0 a1 a2 a3 a4 a5 a6 a7 a8 a9 : AV} (i0 i1 i2 i3 i4 i5 i6 i7 i8 i9 : Nat) (e : (look st.tm i0, look st.tm i1, look st.tm i2, look st.tm i3, look st.tm i4, look st.tm i5, look st.tm i6, look st.tm i7, look st.tm i8, look st.tm i9) = (some a0, some a1, some a2, some a3, some a4, some a5, some a6, some a7, some a8, some a9)) (k : T c code ⟨[(i0, a0), (i1, a1), (i2, a2), (i3, a3), (i4, a4), (i5, a5), (i6, a6), (i7, a7), (i8, a8), (i9, a9)], st.hp⟩ K) : T c code st K := Je (.cons (congrArg (·.1) e) rfl (.cons (congrArg (·.2.1) e) rfl (.cons (congrArg (·.2.2.1) e) rfl (.cons (congrArg (·.2.2.2.1) e) rfl (.cons (congrArg (·.2.2.2.2.1) e) rfl (.cons (congrArg (·.2.2.2.2.2.1) e) rfl (.cons (congrArg (·.2.2.2.2.2.2.1) e) rfl (.cons (congrArg (·.2.2.2.2.2.2.2.1) e) rfl (.cons (congrArg (·.2.2.2.2.2.2.2.2.1) e) rfl (.cons (congrArg (·.2.2.2.2.2.2.2.2.2) e) rfl (.nil))))))))))) rfl k
theorem K11 {c : Ctx} {code : Code} {st : St} {K : Exit → St → Prop} {a0 a1 a2 a3 a4 a5 a6 a7 a8 a9 a10 : AV} (i0 i1 i2 i3 i4 i5 i6 i7 i8 i9 i10 : Nat) (e : (look st.tm i0, look st.tm i1, look st.tm i2, look st.tm i3, look st.tm i4, look st.tm i5, look st.tm i6, look st.tm i7, look st.tm i8, look st.tm i9, look st.tm i10) = (some a0, some a1, some a2, some a3, some a4, some a5, some a6, some a7, some a8, some a9, some a10)) (k : T c code ⟨[(i0, a0), (i1, a1), (i2, a2), (i3, a3), (i4, a4), (i5, a5), (i6, a6), (i7, a7), (i8, a8), (i9, a9), (i10, a10)], st.hp⟩ K) : T c code st K := Je (.cons (congrArg (·.1) e) rfl (.cons (congrArg (·.2.1) e) rfl (.cons (congrArg (·.2.2.1) e) rfl (.cons (congrArg (·.2.2.2.1) e) rfl (.cons (congrArg (·.2.2.2.2.1) e) rfl (.cons (congrArg (·.2.2.2.2.2.1) e) rfl (.cons (congrArg (·.2.2.2.2.2.2.1) e) rfl (.cons (congrArg (·.2.2.2.2.2.2.2.1) e) rfl (.cons (congrArg (·.2.2.2.2.2.2.2.2.1) e) rfl (.cons (congrArg (·.2.2.2.2.2.2.2.2.2.1) e) rfl (.cons (congrArg (·.2.2.2.2.2.2.2.2.2.2) e) rfl (.nil)))))))))))) rfl k
theorem K12 {c : Ctx} {code : Code} {st : St} {K : Exit → St → Prop} {a0 a1 a2 a3 a4 a5 a6 a7 a8 a9 a10 a11 : AV} (i0 i1 i2 i3 i4 i5 i6 i7 i8 i9 i10 i11 : Nat) (e : (look st.tm i0, look st.tm i1, look st.tm i2, look st.tm i3, look st.tm i4, look st.tm i5, look st.tm i6, look st.tm i7, look st.tm i8, look st.tm i9, look st.tm i10, look st.tm i11) = (some a0, some a1, some a2, some a3, some a4, some a5, some a6, some a7, some a8, some a9, some a10, some a11)) (k : T c code ⟨[(i0, a0), (i1, a1), (i2, a2), (i3, a3), (i4, a4), (i5, a5), (i6, a6), (i7, a7), (i8, a8), (i9, a9), (i10, a10), (i11, a11)], st.hp⟩ K) : T c code st K := Je (.cons (congrArg (·.1) e) rfl (.cons (congrArg (·.2.1) e) rfl (.cons (congrArg (·.2.2.1) e) rfl (.cons (congrArg (·.2.2.2.1) e) rfl (.cons (congrArg (·.2.2.2.2.1) e) rfl (.cons (congrArg (·.2.2.2.2.2.1) e) rfl (.cons (congrArg (·.2.2.2.2.2.2.1) e) rfl (.cons (congrArg (·.2.2.2.2.2.2.2.1) e) rfl (.cons (congrArg (·.2.2.2.2.2.2.2.2.1) e) rfl (.cons (congrArg (·.2.2.2.2.2.2.2.2.2.1) e) rfl (.cons (congrArg (·.2.2.2.2.2.2.2.2.2.2.1) e) rfl (.cons (congrArg (·.2.2.2.2.2.2.2.2.2.2.2) e) rfl (.nil))))))))))))) rfl k
theorem K0 {c : Ctx} {code : Code} {st : St} {K : Exit → St → Prop} (k : T c code ⟨[], st.hp⟩ K) : T c code st K := Je .nil rfl k
theorem J0 {τ β γ : Type} {c : Ctx} {st : St} {K : Exit → St → Prop} {k : β → Option γ} {r : γ} {G : τ → Option β} {X : Option τ} {x y : Code} (inj : (Unit) → τ) (J : St) (h : (X.bind G).bind k = some r)
    (hx : X.bind (fun o => (G o).bind k) = some r → T c x st (ZeX (fun st' => ∃ i, (G (inj i)).bind k = some r ∧ Ent c st' (t0 J i)) K))
    (ky : (G (inj ())).bind k = some r → T c y (J) K) : T c (.seq x y) st K :=
  Zeh inj (t0 J) h hx fun i h => ky h
theorem L1 {ρ : Type} {α0 : Type} {c : Ctx} {code : Code} {st : St} {K : Exit → St → Prop} {body : (α0) → Option ((α0) ⊕ ρ)} (I : α0 → St) {s0 : α0} {r : ρ} (h : loop body s0 = some r) (h0 : Ent c st (t1 I s0))
    (hr : ∀ (n : Nat) (a0 : α0), (body a0).bind (Sum.elim (ZaO body n) some) = some r → T c code (I a0) (ZeX (fun st' => ∃ s', ZaO body n s' = some r ∧ Ent c st' (t1 I s')) K)) : T c (.loop code) st K :=
  ZhL body (t1 I) s0 h h0 fun n s h => hr n s h
theorem J1 {τ β γ : Type} {α0 : Type} {c : Ctx} {st : St} {K : Exit → St → Prop} {k : β → Option γ} {r : γ} {G : τ → Option β} {X : Option τ} {x y : Code} (inj : (α0) → τ) (J : α0 → St) (h : (X.bind G).bind k = some r)
    (hx : X.bind (fun o => (G o).bind k) = some r → T c x st (ZeX (fun st' => ∃ i, (G (inj i)).bind k = some r ∧ Ent c st' (t1 J i)) K))
    (ky : ∀ (a0 : α0), (G (inj a0)).bind k = some r → T c y (J a0) K) : T c (.seq x y) st K :=
  Zeh inj (t1 J) h hx fun i h => ky i h
theorem I1 {β γ : Type} {α0 : Type} {c : Ctx} {st : St} {K : Exit → St → Prop} {k : β → Option γ} {r : γ} {g : α0 → Option β} {X : Option (α0)} {x y : Code} (J : α0 → St) (h : (X.bind (t1 g)).bind k = some r)
    (hx : X.bind (fun o => (t1 g o).bind k) = some r → T c x st (ZeX (fun st' => ∃ i, (t1 g i).bind k = some r ∧ Ent c st' (t1 J i)) K))
    (ky : ∀ (a0 : α0), (g a0).bind k = some r → T c y (J a0) K) : T c (.seq x y) st K :=
  Zeh (G := t1 g) id (t1 J) h hx fun i h => ky i h
theorem L2 {ρ : Type} {α0 α1 : Type} {c : Ctx} {code : Code} {st : St} {K : Exit → St → Prop} {body : (α0 × α1) → Option ((α0 × α1) ⊕ ρ)} (I : α0 → α1 → St) {s0 : α0 × α1} {r : ρ} (h : loop body s0 = some r) (h0 : Ent c st (t2 I s0))
    (hr : ∀ (n : Nat) (a0 : α0) (a1 : α1), (body (a0, a1)).bind (Sum.elim (ZaO body n) some) = some r → T c code (I a0 a1) (ZeX (fun st' => ∃ s', ZaO body n s' = some r ∧ Ent c st' (t2 I s')) K)) : T c (.loop code) st K :=
  ZhL body (t2 I) s0 h h0 fun n s h => hr n (s.1) (s.2) h
theorem J2 {τ β γ : Type} {α0 α1 : Type} {c : Ctx} {st : St} {K : Exit → St → Prop} {k : β → Option γ} {r : γ} {G : τ → Option β} {X : Option τ} {x y : Code} (inj : (α0 × α1) → τ) (J : α0 → α1 → St) (h : (X.bind G).bind k = some r)
    (hx : X.bind (fun o => (G o).bind k) = some r → T c x st (ZeX (fun st' => ∃ i, (G (inj i)).bind k = some r ∧ Ent c st' (t2 J i)) K))
    (ky : ∀ (a0 : α0) (a1 : α1), (G (inj (a0, a1))).bind k = some r → T c y (J a0 a1) K) : T c (.seq x y) st K :=
  Zeh inj (t2 J) h hx fun i h => ky (i.1) (i.2) h
theorem I2 {β γ : Type} {α0 α1 : Type} {c : Ctx} {st : St} {K : Exit → St → Prop} {k : β → Option γ} {r : γ} {g : α0 → α1 → Option β} {X : Option (α0 × α1)} {x y : Code} (J : α0 → α1 → St) (h : (X.bind (t2 g)).bind k = some r)
    (hx : X.bind (fun o => (t2 g o).bind k) = some r → T c x st (ZeX (fun st' => ∃ i, (t2 g i).bind k = some r ∧ Ent c st' (t2 J i)) K))
    (ky : ∀ (a0 : α0) (a1 : α1), (g a0 a1).bind k = some r → T c y (J a0 a1) K) : T c (.seq x y) st K :=
  Zeh (G := t2 g) id (t2 J) h hx fun i h => ky (i.1) (i.2) h
theorem L3 {ρ : Type} {α0 α1 α2 : Type} {c : Ctx} {code : Code} {st : St} {K : Exit → St → Prop} {body : (α0 × α1 × α2) → Option ((α0 × α1 × α2) ⊕ ρ)} (I : α0 → α1 → α2 → St) {s0 : α0 × α1 × α2} {r : ρ} (h : loop body s0 = some r) (h0 : Ent c st (t3 I s0))
    (hr : ∀ (n : Nat) (a0 : α0) (a1 : α1) (a2 : α2), (body (a0, a1, a2)).bind (Sum.elim (ZaO body n) some) = some r → T c code (I a0 a1 a2) (ZeX (fun st' => ∃ s', ZaO body n s' = some r ∧ Ent c st' (t3 I s')) K)) : T c (.loop code) st K :=
  ZhL body (t3 I) s0 h h0 fun n s h => hr n (s.1) (s.2.1) (s.2.2) h
theorem I4 {β γ : Type} {α0 α1 α2 α3 : Type} {c : Ctx} {st : St} {K : Exit → St → Prop} {k : β → Option γ} {r : γ} {g : α0 → α1 → α2 → α3 → Option β} {X : Option (α0 × α1 × α2 × α3)} {x y : Code} (J : α0 → α1 → α2 → α3 → St) (h : (X.bind (t4 g)).bind k = some r)
    (hx : X.bind (fun o => (t4 g o).bind k) = some r → T c x st (ZeX (fun st' => ∃ i, (t4 g i).bind k = some r ∧ Ent c st' (t4 J i)) K))
    (ky : ∀ (a0 : α0) (a1 : α1) (a2 : α2) (a3 : α3), (g a0 a1 a2 a3).bind k = some r → T c y (J a0 a1 a2 a3) K) : T c (.seq x y) st K :=
  Zeh (G := t4 g) id (t4 J) h hx fun i h => ky (i.1) (i.2.1) (i.2.2.1) (i.2.2.2) h
theorem J8 {τ β γ : Type} {α0 α1 α2 α3 α4 α5 α6 α7 : Type} {c : Ctx} {st : St} {K : Exit → St → Prop} {k : β → Option γ} {r : γ} {G : τ → Option β} {X : Option τ} {x y : Code} (inj : (α0 × α1 × α2 × α3 × α4 × α5 × α6 × α7) → τ) (J : α0 → α1 → α2 → α3 → α4 → α5 → α6 → α7 → St) (h : (X.bind G).bind k = some r)
    (hx : X.bind (fun o => (G o).bind k) = some r → T c x st (ZeX (fun st' => ∃ i, (G (inj i)).bind k = some r ∧ Ent c st' (t8 J i)) K))
    (ky : ∀ (a0 : α0) (a1 : α1) (a2 : α2) (a3 : α3) (a4 : α4) (a5 : α5) (a6 : α6) (a7 : α7), (G (inj (a0, a1, a2, a3, a4, a5, a6, a7))).bind k = some r → T c y (J a0 a1 a2 a3 a4 a5 a6 a7) K) : T c (.seq x y) st K :=
  Zeh inj (t8 J) h hx fun i h => ky (i.1) (i.2.1) (i.2.2.1) (i.2.2.2.1) (i.2.2.2.2.1) (i.2.2.2.2.2.1) (i.2.2.2.2.2.2.1) (i.2.2.2.2.2.2.2) h
theorem L9 {ρ : Type} {α0 α1 α2 α3 α4 α5 α6 α7 α8 : Type} {c : Ctx} {code : Code} {st : St} {K : Exit → St → Prop} {body : (α0 × α1 × α2 × α3 × α4 × α5 × α6 × α7 × α8) → Option ((α0 × α1 × α2 × α3 × α4 × α5 × α6 × α7 × α8) ⊕ ρ)} (I : α0 → α1 → α2 → α3 → α4 → α5 → α6 → α7 → α8 → St) {s0 : α0 × α1 × α2 × α3 × α4 × α5 × α6 × α7 × α8} {r : ρ} (h : loop body s0 = some r) (h0 : Ent c st (t9 I s0))
    (hr : ∀ (n : Nat) (a0 : α0) (a1 : α1) (a2 : α2) (a3 : α3) (a4 : α4) (a5 : α5) (a6 : α6) (a7 : α7) (a8 : α8), (body (a0, a1, a2, a3, a4, a5, a6, a7, a8)).bind (Sum.elim (ZaO body n) some) = some r → T c code (I a0 a1 a2 a3 a4 a5 a6 a7 a8) (ZeX (fun st' => ∃ s', ZaO body n s' = some r ∧ Ent c st' (t9 I s')) K)) : T c (.loop code) st K :=
  ZhL body (t9 I) s0 h h0 fun n s h => hr n (s.1) (s.2.1) (s.2.2.1) (s.2.2.2.1) (s.2.2.2.2.1) (s.2.2.2.2.2.1) (s.2.2.2.2.2.2.1) (s.2.2.2.2.2.2.2.1) (s.2.2.2.2.2.2.2.2) h
section
variable {cw : Md} {c : Ctx} {ops : Array Oper} {m : Nat} {st : St} {K : Exit → St → Prop} {dst : Option Tmp} {x y : Operand} {ty : TypeId} {pos : String} {after : Array Edge} {o o' : Oper} {v v' P Q : AV} {hp' : List (Option Own)}
theorem Dq (i : Nat) (e : (ops[i]?, dstLt o.dst c.nt, noWrite cw.cw o.op) = (some o, true, true)) (h : SVal c ops ⟨restr st.tm (o.looksAt ops), st.hp⟩ o v) (k : Dv cw c ops (KE c K) (setBit m i) (st.puto o.dst v))
    (ht : takeQ cw ops m i = true := by kernel_rfl) : Dv cw c ops (KE c K) m st := Zmg i v (congrArg Prod.fst e) ht (congrArg (·.2.1) e) (congrArg (·.2.2) e) h k
theorem D1 (i : Nat) (L : Opv c ⟨restr st.tm (o.looksAt ops), st.hp⟩ x P → SVal c ops ⟨restr st.tm (o.looksAt ops), st.hp⟩ o v) (e : (ops[i]?, dstLt o.dst c.nt, noWrite cw.cw o.op, opv (restr st.tm (o.looksAt ops)) x) = (some o, true, true, some P))
    (k : Dv cw c ops (KE c K) (setBit m i) (st.puto o.dst v)) (ht : takeQ cw ops m i = true := by kernel_rfl) : Dv cw c ops (KE c K) m st := Zmg i v (congrArg Prod.fst e) ht (congrArg (·.2.1) e) (congrArg (·.2.2.1) e) (L (ov (congrArg (·.2.2.2) e))) k
theorem D2 (i : Nat) (L : Opv c ⟨restr st.tm (o.looksAt ops), st.hp⟩ x P → Opv c ⟨restr st.tm (o.looksAt ops), st.hp⟩ y Q → SVal c ops ⟨restr st.tm (o.looksAt ops), st.hp⟩ o v)
    (e : (ops[i]?, dstLt o.dst c.nt, noWrite cw.cw o.op, opv (restr st.tm (o.looksAt ops)) x, opv (restr st.tm (o.looksAt ops)) y) = (some o, true, true, some P, some Q))
    (k : Dv cw c ops (KE c K) (setBit m i) (st.puto o.dst v)) (ht : takeQ cw ops m i = true := by kernel_rfl) : Dv cw c ops (KE c K) m st :=
  Zmg i v (congrArg Prod.fst e) ht (congrArg (·.2.1) e) (congrArg (·.2.2.1) e) (L (ov (congrArg (·.2.2.2.1) e)) (ov (congrArg (·.2.2.2.2) e))) k
theorem Do (i : Nat) (e : (ops[i]?, dstLt o.dst c.nt, noWrite cw.cw o.op) = (some o, true, false)) (h : WVal c ops ⟨restr st.tm (o.looksAt ops), st.hp⟩ o v hp') (k : Dv cw c ops (KE c K) (setBit m i) (St.puto ⟨st.tm, hp'⟩ o.dst v)) (ht : onlyAt ops m i = true := by kernel_rfl)
    (hx : extOp o.op = true → Ext st.hp hp' := by intro h; cases h) (hy : cw.fr = true → ExtW cw.wl cw.base hp' := by intro h; cases h) : Dv cw c ops (KE c K) m st := JM i v hp' (congrArg Prod.fst e) ht (congrArg (·.2.1) e) (congrArg (·.2.2) e) hx hy h k
theorem Dw (i j : Nat) (e : (ops[i]?, ops[j]?, dstLt o.dst c.nt, dstLt o'.dst c.nt, noWrite cw.cw o.op, noWrite cw.cw o'.op) = (some o, some o', true, true, true, false))
    (h : SVal c ops ⟨restr st.tm (o.looksAt ops), st.hp⟩ o v) (h' : WVal c ops ⟨restr st.tm (o'.looksAt ops), st.hp⟩ o' v' hp')
    (k : Dv cw c ops (KE c K) (setBit m i) (st.puto o.dst v)) (k' : Dv cw c ops (KE c K) (setBit m j) (St.puto ⟨st.tm, hp'⟩ o'.dst v')) (ht : ZjM ops m i j = true := by kernel_rfl)
    (hx' : extOp o'.op = true → Ext st.hp hp' := by intro h; cases h) (hy' : cw.fr = true → ExtW cw.wl cw.base hp' := by intro h; cases h) : Dv cw c ops (KE c K) m st :=
  ZlL i j (congrArg (·.1) e) (congrArg (·.2.1) e) ht (congrArg (·.2.2.1) e) (congrArg (·.2.2.2.1) e) (congrArg (·.2.2.2.2.1) e) (congrArg (·.2.2.2.2.2) e) hx' hy' h h' k k'
theorem Dd (k : K .normal st) (h : ZiX ops m = true := by kernel_rfl) : Dv cw c ops (KE c K) m st := Znh h k
end
theorem ES {c : Ctx} {st : St} {tm' : List (Nat × AV)} {hp' : List (Option Own)} (s : List (Option Nat))
    (htm : SelTm (ZgN s st.hp) st.tm tm' := by repeat (first | exact sn | refine sd _ rfl rfl ?_ | (refine sr _ rfl ?_ ?_; (· first | exact .dat rfl | exact .own _ rfl | exact .ptr _ _ _ rfl | exact .mref _ rfl | exact .row rfl | exact .nils _ | (refine ZaG ?_; (· first | exact rld rfl | (refine rld ?_; (· first | rfl | exact arD fun _ => rfl | exact arC fun _ => rfl | exact ZjO fun x => (RowD.h (P := _) x).2 | ((repeat (first | exact alN | refine alC rfl ?_ | (refine alA ?_ ?_; (· first | exact arD fun _ => rfl | exact arC fun _ => rfl)))); done))) | ((repeat (first | exact rln | (refine rlc ?_ ?_; (· first | exact .dat rfl | exact .own _ rfl | exact .ptr _ _ _ rfl | exact .mref _ rfl | exact .row rfl | exact .nils _)) | (refine rla ?_ ?_; (· refine rld ?_; (first | rfl | exact arD fun _ => rfl | exact arC fun _ => rfl | exact ZjO fun x => (RowD.h (P := _) x).2 | ((repeat (first | exact alN | refine alC rfl ?_ | (refine alA ?_ ?_; (· first | exact arD fun _ => rfl | exact arC fun _ => rfl)))); done)))))); done))) | (refine QW ?_; (· first | exact rld rfl | (refine rld ?_; (· first | rfl | exact arD fun _ => rfl | exact arC fun _ => rfl | exact ZjO fun x => (RowD.h (P := _) x).2 | ((repeat (first | exact alN | refine alC rfl ?_ | (refine alA ?_ ?_; (· first | exact arD fun _ => rfl | exact arC fun _ => rfl)))); done))) | ((repeat (first | exact rln | (refine rlc ?_ ?_; (· first | exact .dat rfl | exact .own _ rfl | exact .ptr _ _ _ rfl | exact .mref _ rfl | exact .row rfl | exact .nils _)) | (refine rla ?_ ?_; (· refine rld ?_; (first | rfl | exact arD fun _ => rfl | exact arC fun _ => rfl | exact ZjO fun x => (RowD.h (P := _) x).2 | ((repeat (first | exact alN | refine alC rfl ?_ | (refine alA ?_ ?_; (· first | exact arD fun _ => rfl | exact arC fun _ => rfl)))); done)))))); done))) | (refine rFn ?_; (· first | exact rld rfl | (refine rld ?_; (· first | rfl | exact arD fun _ => rfl | exact arC fun _ => rfl | exact ZjO fun x => (RowD.h (P := _) x).2 | ((repeat (first | exact alN | refine alC rfl ?_ | (refine alA ?_ ?_; (· first | exact arD fun _ => rfl | exact arC fun _ => rfl)))); done))) | ((repeat (first | exact rln | (refine rlc ?_ ?_; (· first | exact .dat rfl | exact .own _ rfl | exact .ptr _ _ _ rfl | exact .mref _ rfl | exact .row rfl | exact .nils _)) | (refine rla ?_ ?_; (· refine rld ?_; (first | rfl | exact arD fun _ => rfl | exact arC fun _ => rfl | exact ZjO fun x => (RowD.h (P := _) x).2 | ((repeat (first | exact alN | refine alC rfl ?_ | (refine alA ?_ ?_; (· first | exact arD fun _ => rfl | exact arC fun _ => rfl)))); done)))))); done)))))))
    (hhp : SelHp c.P (ZgN s st.hp) st.hp s hp' := by repeat (first | exact .nil | (refine .cons rfl ?_ ?_; (· first | exact roM RowD.h | exact roE | (refine ro1 ?_ ?_; (· first | exact (SzD.h).symm | (refine Eq.trans ?_ (SzD.h).symm; (· simp))); (· first | exact rld rfl | (refine rld ?_; (· first | rfl | exact arD fun _ => rfl | exact arC fun _ => rfl | exact ZjO fun x => (RowD.h (P := _) x).2 | ((repeat (first | exact alN | refine alC rfl ?_ | (refine alA ?_ ?_; (· first | exact arD fun _ => rfl | exact arC fun _ => rfl)))); done))) | ((repeat (first | exact rln | (refine rlc ?_ ?_; (· first | exact .dat rfl | exact .own _ rfl | exact .ptr _ _ _ rfl | exact .mref _ rfl | exact .row rfl | exact .nils _)) | (refine rla ?_ ?_; (· refine rld ?_; (first | rfl | exact arD fun _ => rfl | exact arC fun _ => rfl | exact ZjO fun x => (RowD.h (P := _) x).2 | ((repeat (first | exact alN | refine alC rfl ?_ | (refine alA ?_ ?_; (· first | exact arD fun _ => rfl | exact arC fun _ => rfl)))); done)))))); done))))) | refine .dead ?_ | refine .row _ ?_))
    (hnd : dupL s hp' = true := by rfl) (hfx : Zgz 0 c.n0 s = true := by rfl) : Ent c st ⟨tm', hp'⟩ := Ent.sel s htm hhp hnd hfx
end Go.Vx

namespace Go.Vx
open Go Go.RowKit
section ops
variable {c : Ctx} {ops : Array Oper} {st : St} {dst : Option Tmp} {ty : TypeId} {pos : String} {after : Array Edge}
variable {α : Type} {f : α → List AV}
theorem Ziu {P : Program} (w : World) (t e ty : TypeId) (z zv : Value) (ht : P.underlying t = some (.slice e)) (hv : (zeroValue e).run P w = .ok z w) (hz : z.cells = #[zv]) (h1 : zv.oneCell' = true) (g n c : Nat) (hn : 0 < n)
    (cur : Array Value) (t' : TypeId) (hg : w.heap[g]? = some (.cells cur t' (0, 0))) (hfit : n ≤ cur.size) :
    (Builtin.clear_ #[t] ty #[.slice (some ⟨g, 0, none⟩) n c]).run P w = .ok (.tuple #[]) (w.setRow g (cur.toList.take 0 ++ List.replicate n zv ++ cur.toList.drop (0 + (List.replicate n zv).length)).toArray) := by
  have hzc : (Builtin.zeroCells z.cells n).toList = List.replicate n zv := by
    rw [hz]
    simp [Builtin.zeroCells]
    apply List.ext_getElem
    · simp
    · intro i h1 h2
      simp [Nat.mod_one]
  have hst := run_storeCells_at P g 0 t' (List.replicate n zv) 0 cur w hg (by simpa using hfit) (by intro v hv'; rw [List.eq_of_mem_replicate hv']; exact h1)
  simp only [Nat.add_zero] at hst
  obtain ⟨m, rfl⟩ : ∃ m, n = m + 1 := ⟨n - 1, by omega⟩
  simp [Builtin.clear_, run_underlying ht, hv, hzc, hst]
theorem Zk9 {g : α → AV} {t e by_ r n : Nat} {x : Operand} {xs : List α} {z0 : α} {zv : Value} (h : Opv c st x (.own r n)) (ho : nth st.hp r = some ⟨e, xs.map f⟩) (hn : xs.length = n)
    (hf : ∀ u, f u = [g u]) (ht : tSl c.P t e 1 by_ = true) (hz : XU c.P e = some [zv]) (hz2 : zv.oneCell' = true) (hzr : ∀ (w : World) (M : Nat → Prop), RelD c.P w M (g z0) zv) :
    WVal c ops st ⟨dst, .call { callee := .builtin .clear, args := #[x], argTypes := #[t] }, ty, pos, after, none⟩ .any (QH st.hp r (some ⟨e, (List.replicate xs.length z0).map f⟩)) := by
  refine .run rfl fun φ a w hc => ?_
  obtain ⟨hu, inf, z, hi', hs, hby, hn0, hzz, hzs, hcs⟩ := tSl.spec ht
  have hzc : z.cells = #[zv] := by
    unfold XU at hz
    rw [hi'] at hz
    simp only [hzz, Option.map_some, Option.some.injEq] at hz
    apply Array.toList_inj.1; rw [hz]
  have hzv : (zeroValue e).run c.P w = .ok z w := by simp [zeroValue, typeInfo, hi', hzz]
  have hO := hc.hok.obj r _ ho
  have hlen : (φ r).n = xs.length := by rw [hO.len]; simp
  have hx := XV (h φ a w hc) (by omega)
  have hmp := Q9 (h φ a w hc) (by omega)
  have hroom := hO.room
  simp only [List.length_map] at hroom
  have hφ : (fun x => if x = r then φ r else φ x) = φ := by funext x; split; subst_vars; rfl; rfl
  have hrun0 : ∀ v w1, (Builtin.clear_ #[t] ty #[a.eval x]).run c.P w = .ok v w1 → (execOp a.eval ⟨dst, .call { callee := .builtin .clear, args := #[x], argTypes := #[t] }, ty, pos, after, none⟩).run c.P w = .ok (.value v) w1 := by
    intro v w1 hr
    simp [execOp, resolve, invoke, builtin, hr]
  by_cases h0 : xs.length = 0
  · have e0 : xs = [] := List.length_eq_zero_iff.1 h0
    have e2 : QH st.hp r (some ⟨e, (List.replicate xs.length z0).map f⟩) = st.hp := by
      rw [h0]; subst e0; exact Zfw ho
    rw [e2]
    have hrun : (Builtin.clear_ #[t] ty #[a.eval x]).run c.P w = .ok (.tuple #[]) w := by
      rw [hx, ← hn, h0]
      cases (φ r).blk <;> simp [Builtin.clear_, run_underlying hu]
    exact ⟨.tuple #[], w, φ, hrun0 _ _ hrun, hc.hok, fun _ _ h => h, Zq (.any _)⟩
  cases hb : (φ r).blk with
  | none => have := (hO.none hb).1; simp at this; rw [this] at h0; simp at h0
  | some b =>
    rw [hb] at hx
    simp only [Option.map_some] at hx
    obtain ⟨cs, k1, k2, k3⟩ := hO.some b hb
    have k1 := k1.cells hmp
    rw [hcs, Nat.mul_one] at k2
    have hl : (List.replicate n zv).length = n := List.length_replicate ..
    have hrun := Ziu (P := c.P) w t e ty z zv hu hzv hzc hz2 b n (φ r).cap (by omega) cs e k1 (by omega)
    rw [hl] at hrun
    have hu' := Zae (L := φ r) (o' := ⟨e, (List.replicate xs.length z0).map f⟩) (w' := w.setRow b (cs.toList.take 0 ++ List.replicate n zv ++ cs.toList.drop (0 + n)).toArray) hc.hok ho rfl rfl rfl (by simp [World.setRow]) (fun b' _ hne => setRow_other w b b' _ (fun e => hne (by rw [hb, e]))) (.inl rfl) (.inl (.refl _)) (fun htr => by
      simp only [hφ] at htr ⊢
      refine ⟨by rw [hO.len]; simp, hO.sz, ?_, by simpa using hroom, hO.cap, (fun h => by rw [hb] at h; cases h), (fun b' hs' => Nat.lt_of_lt_of_le (hO.subl b' hs') (by simp [World.setRow])), hO.subn, fun b' hb' => ?_⟩
      · intro row hr
        obtain ⟨u, _, rfl⟩ := List.mem_map.1 hr
        rw [hf, hcs]; rfl
      · rw [hb] at hb'; cases hb'
        refine ⟨_, by rw [hmp]; exact setRow_heap w b cs _ e _ k1, by rw [hcs]; simp; omega, Cells.of fun i j hi hj => ?_⟩
        simp only [List.length_map, List.length_replicate] at hi
        rw [hcs] at hj ⊢
        obtain rfl : j = 0 := by omega
        have e2 := XF cs (List.replicate n zv) 0 i (by rw [hl]; omega)
        rw [hl] at e2
        simp only [Nat.mul_one, Nat.add_zero]
        rw [e2, if_neg (by omega), if_pos (by omega)]
        have ec : cellAt ((List.replicate xs.length z0).map f) i 0 = g z0 := by
          simp [cellAt, List.getD_eq_getElem?_getD, List.getElem?_replicate, hi, hf]
        have ez : (List.replicate n zv).getD (i - 0) undef = zv := by
          rw [List.getD_eq_getElem?_getD, List.getElem?_replicate, if_pos (by omega)]; rfl
        rw [ec, ez]
        exact Zq (hzr _ _))
    simp only [hφ] at hu'
    exact ⟨.tuple #[], _, φ, hrun0 _ _ (by rw [hx]; exact hrun), hu'.1, hu'.2, Zq (.any _)⟩
end ops
end Go.Vx
