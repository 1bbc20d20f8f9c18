/- A text of the proof: a verified executor of the program form, or the contracts of the functions that the law reaches. -/
import Derived.Test.YtieneanhpdhfiaaDoorVM
import Derived.MapKept
import Derived.WideKeyRuns
set_option linter.all false
namespace Go.Vx
open Go Go.RowKit


structure KeyOK (P : Program) (kt : TypeId) {K : Type} (f : K → AV) (eq : K → K → Bool) : Prop where
  und : ∃ d, P.underlying kt = some d
  chk : ∀ (w : World) (M : Nat → Prop) (a : K) (va : Value) (em : Bool), RelD P w M (f a) va → (Instr.checkKey em 10000 kt va).run P w = .ok () w
  find : ∀ (w : World) (M : Nat → Prop) (a : K) (va : Value), RelD P w M (f a) va → ∀ (l : List K) (es : List MapEntry), es.length = l.length → (∀ (i : Nat) (k : K) (e : MapEntry), l[i]? = some k → es[i]? = some e → RelD P w M (f k) e.key) →
    (Instr.findKey kt va es).run P w = .ok ((l.findIdx? (eq a)).bind fun i => (es[i]?).map fun e => (i, e.val)) w
  keep : ∀ (w : World) (M : Nat → Prop) (a b : K) (va vb : Value), RelD P w M (f a) va → RelD P w M (f b) vb → eq a b = true → (Instr.keyThatStays vb va).run P w = .ok va w
  refl : ∀ a, eq a a = true

end Go.Vx

namespace Go.Vx
open Go Go.RowKit

def tMap (P : Program) (t kt e : Nat) : Bool := (match P.underlying t with | some (.map k e') => Nat.beq k kt && Nat.beq e' e | _ => false) && Nat.beq (P.cellsOf t) 1
theorem tMap.spec {P : Program} {t kt e : Nat} (h : tMap P t kt e = true) : P.underlying t = some (.map kt e) ∧ P.cellsOf t = 1 := by
  unfold tMap at h
  simp only [Bool.and_eq_true] at h
  refine ⟨?_, Nat.eq_of_beq_eq_true h.2⟩
  have := h.1
  split at this
  · rename_i heq
    simp only [Bool.and_eq_true] at this
    rw [heq, Nat.eq_of_beq_eq_true this.1, Nat.eq_of_beq_eq_true this.2]
  · cases this

section ops
variable {c : Ctx} {ops : Array Oper} {st : St} {dst : Option Tmp} {ty : TypeId} {pos : String} {after : Array Edge}

end ops
end Go.Vx

namespace Go.Vx
open Go Go.RowKit

section ops
variable {c : Ctx} {ops : Array Oper} {st : St} {dst : Option Tmp} {ty : TypeId} {pos : String} {after : Array Edge}

end ops

end Go.Vx

namespace Go.Vx
open Go Go.RowKit


inductive MeltC (P : Program) : AV → AV → Prop
  | dat {av : AV} : datB av = true → MeltC P av av
  | nils (e : TypeId) : MeltC P .nils (.sl e [])
  | sub {e : TypeId} {l l' : List (List AV)} : l.length = l'.length → (∀ row ∈ l', row.length = P.cellsOf e) → (∀ i j, i < l.length → j < P.cellsOf e → MeltC P (cellAt l i j) (cellAt l' i j)) → MeltC P (.osub e l) (.sl e l')

theorem MeltC.rel {P : Program} {w : World} {M M' : Nat → Prop} {n : Nat} {φ : Phi} {S : Nat → Prop} {av av' : AV} {v : Value} (hm : MeltC P av av') (h : TRel P w M n φ S av v) (hS : ∀ b, S b → ¬ M' b) (hM : ∀ b, b < w.heap.size → ¬ M b → ¬ M' b) : RelD P w M' av' v := by
  induction hm generalizing S v with
  | dat hb => exact (Zbf (h.plain (Jg hb) φ (fun _ _ => rfl)) hb).mono (Nat.le_refl _) (fun _ _ _ => rfl) hM
  | nils e =>
    have hv := h.plain rfl φ (fun _ _ => rfl)
    cases hv with | data h => cases h; exact .sl0 e _ _
  | @sub e l l' h1 h2 h3 ih =>
    cases h with
    | leaf h => have := Zbd h; cases this
    | nil e =>
      have : l' = [] := List.eq_nil_of_length_eq_zero h1.symm
      subst this
      exact .sl0 e _ _
    | osub _ _ b cap cs T g1 g2 g3 g4 g5 g6 g7 g8 g9 =>
      have hsz : ∀ i j, i < l.length → j < P.cellsOf e → i * P.cellsOf e + j < cs.size := fun i j hi hj => by rw [g5]; exact Q3 (by omega) hj
      rw [h1]
      refine .sl e l' b 0 cap (fun i j => cs.getD (i * P.cellsOf e + j) undef) (Array.getElem?_eq_some_iff.1 g4).1 (hS b g1) (by omega) (by omega) h2 (fun i j hi hj => ?_) (fun i j hi hj => ?_)
      · rw [Zn g4, Nat.zero_add]
        have := hsz i j (by omega) hj
        simp [this]
      · exact ih i j (by omega) hj (g9 i j (by omega) hj) fun x hx => hS x (g7 i j x hx).1

theorem Ent.melt {c : Ctx} {tm : List (Nat × AV)} {hp : List (Option Own)} {r : Nat} {o : Own} {es' : List (List AV)} (ho : nth hp r = some o) (hl : o.es.length = es'.length) (hr : ∀ row ∈ es', row.length = c.P.cellsOf o.elem)
    (h : ∀ i j, i < o.es.length → j < c.P.cellsOf o.elem → MeltC c.P (cellAt o.es i j) (cellAt es' i j)) : Ent c ⟨tm, hp⟩ ⟨tm, ZF hp r (some ⟨o.elem, es'⟩)⟩ := by
  intro φ a w hc
  have hok := hc.hok
  have hO := hok.obj r o ho
  let φ' : Phi := fun x => if x = r then { φ r with sub := fun _ => False } else φ x
  have f2 : φ' r = { φ r with sub := fun _ => False } := by simp only [φ', if_true]
  have f3 : ∀ x, x ≠ r → φ' x = φ x := fun x h' => by simp only [φ', if_neg h']
  have same : ∀ x, (φ' x).same (φ x) := fun x => by
    by_cases h' : x = r
    · subst h'; rw [f2]; exact ⟨rfl, rfl, rfl, rfl, rfl⟩
    · rw [f3 x h']; exact .refl _
  have sub : ∀ x y, (φ' x).has y → (φ x).has y := fun x y hy => by
    by_cases h' : x = r
    · subst h'; rw [f2] at hy; rcases hy with h | h
      · exact .inl h
      · exact h.elim
    · rw [f3 x h'] at hy; exact hy
  have hlen' := XY hp r (some (⟨o.elem, es'⟩ : Own))
  have hnth : ∀ x z, nth (ZF hp r (some ⟨o.elem, es'⟩)) x = some z → ∃ z', nth hp x = some z' := fun x z hx => by
    rw [Xo ho] at hx
    split at hx
    · rename_i e; subst e; exact ⟨o, ho⟩
    · exact ⟨z, hx⟩
  have hmut : ∀ y, Mut c.A φ' (ZF hp r (some ⟨o.elem, es'⟩)) y → Mut c.A φ hp y := by
    rintro y (ha | ⟨x, z, hx, hy⟩)
    · exact .inl ha
    · obtain ⟨z', h⟩ := hnth x z hx
      exact .inr ⟨x, z', h, sub x y hy⟩
  have hfree : ∀ y, (φ r).sub y → ¬ Mut c.A φ' (ZF hp r (some ⟨o.elem, es'⟩)) y := by
    rintro y hy (ha | ⟨x, z, hx, hxy⟩)
    · exact (hok.owned r o y ho (.inr hy)).2 ha
    · obtain ⟨z', h'⟩ := hnth x z hx
      have := hok.apart x r z' o y h' ho (sub x y hxy) (.inr hy)
      subst this
      rw [f2] at hxy
      rcases hxy with h | h
      · exact hO.subn y h hy
      · exact h
  have htr : ∀ av x, RelF c.P w (Mut c.A φ hp) hp.length φ av x → RelF c.P w (Mut c.A φ' (ZF hp r (some ⟨o.elem, es'⟩))) (ZF hp r (some ⟨o.elem, es'⟩)).length φ' av x := by
    intro av x hx ψ hψ
    have h0 := hx (fun s => if s < hp.length then φ s else ψ s) fun s hs => by simp only [if_pos hs]
    refine (h0.mono (Nat.le_refl _) (fun _ _ _ => rfl) (fun y _ hm hm' => hm (hmut y hm'))).loc fun s => ?_
    by_cases hs : s < hp.length
    · rw [if_pos hs, hψ s (by omega)]; exact .inl (same s)
    · rw [if_neg hs]; exact .inl (.refl _)
  refine ⟨φ', hc.size, hc.defers, ⟨hok.os, hok.tape, hok.output, hok.heap, hok.frame, ?_, ?_, ?_, hok.amb, hok.glob, by rw [hlen']; exact hok.len, fun s hs => ?_⟩, fun t av ht => htr _ _ (hc.tm t av ht)⟩
  · intro x z y hx hy
    obtain ⟨z', h'⟩ := hnth x z hx
    exact hok.owned x z' y h' (sub x y hy)
  · intro x1 x2 z1 z2 y hx1 hx2 hy1 hy2
    obtain ⟨p1, a1⟩ := hnth x1 z1 hx1
    obtain ⟨p2, b1⟩ := hnth x2 z2 hx2
    exact hok.apart x1 x2 p1 p2 y a1 b1 (sub x1 y hy1) (sub x2 y hy2)
  · intro x z hx
    rw [Xo ho] at hx
    by_cases e2 : x = r
    · subst e2
      rw [if_pos rfl] at hx
      cases hx
      refine ⟨by rw [f2, ← hl]; exact hO.len, by rw [f2]; exact hO.sz, hr, by rw [f2, ← hl]; exact hO.room, by rw [f2]; exact hO.cap, ?_, by rw [f2]; exact fun y hy => hy.elim, by rw [f2]; exact fun y _ hy => hy, fun b' hb' => ?_⟩
      · rw [f2]
        intro h
        obtain ⟨g1, g2⟩ := hO.none h
        exact ⟨List.eq_nil_of_length_eq_zero (by rw [← hl, g1]; rfl), g2⟩
      · rw [f2] at hb' ⊢
        simp only at hb'
        obtain ⟨cs, h1, h2, T, t1, t2, h3⟩ := hO.some b' hb'
        refine ⟨cs, h1, h2, .of fun i j hi hj => Ze ?_⟩
        have hi : i < o.es.length := by rw [hl]; exact hi
        exact (h i j hi hj).rel (h3 i j hi hj) (fun y hy => hfree y (t1 i j y hy)) (fun y _ hm hm' => hm (hmut y hm'))
    · rw [if_neg e2] at hx
      have hX := hok.obj x z hx
      refine ⟨by rw [f3 x e2]; exact hX.len, by rw [f3 x e2]; exact hX.sz, hX.rows, by rw [f3 x e2]; exact hX.room, by rw [f3 x e2]; exact hX.cap, by rw [f3 x e2]; exact hX.none, by rw [f3 x e2]; exact hX.subl, by rw [f3 x e2]; exact hX.subn, fun b' hb' => ?_⟩
      rw [f3 x e2] at hb' ⊢
      obtain ⟨cs', g1, g2, g3⟩ := hX.some b' hb'
      exact ⟨cs', g1, g2, g3.tr (fun _ _ => rfl) htr⟩
  · rcases hok.mono s hs with h | h
    · exact .inl ((same s).trans h)
    · exact .inr (by rw [(same s).2.2.1]; exact h)
end Go.Vx

namespace Go.Vx
open Go Go.RowKit

theorem roE {P : Program} {q : Rw} {e : TypeId} : RenOO P q ⟨e, []⟩ ⟨e, []⟩ := ⟨rfl, rfl, fun row h => by simp at h, fun i j hi => by simp at hi⟩

section
variable {α : Type} {m : Nat} {v : Vector (List α) m} {e : TypeId} {R : α → List AV} {z : Int} {xs ys : List α}
end
end Go.Vx
