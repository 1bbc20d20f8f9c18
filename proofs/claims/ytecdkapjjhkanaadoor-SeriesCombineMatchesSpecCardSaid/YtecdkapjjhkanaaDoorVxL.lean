/- A text of the proof: a verified executor of the program form, or the contracts of the functions that the law reaches. -/
import Derived.Test.YtecdkapjjhkanaaDoorVxK
set_option linter.all false
namespace Go.Vx
open Go Go.RowKit

theorem gT {b : Bool} (h : b = true) : (b == true) = true := by rw [h]; rfl
theorem gF {b : Bool} (h : b = false) : (b == false) = true := by rw [h]; rfl
theorem gA {x y : Bool} (h : x = true) (k : y = true) : (x && y) = true := by rw [h, k]; rfl
theorem g1 {x y : Bool} (h : (x && y) = true) : x = true := by cases x <;> simp_all
theorem g2 {x y : Bool} (h : (x && y) = true) : y = true := by cases x <;> simp_all
theorem gT' {b : Bool} (h : (b == true) = true) : b = true := by cases b <;> simp_all
theorem gF' {b : Bool} (h : (b == false) = true) : b = false := by cases b <;> simp_all

theorem ExtW.app {wl : List Nat} {hp l : List (Option Own)} : ExtW wl hp (hp ++ l) := ⟨by simp, fun r o h => by
  have : nth (hp ++ l) r = some o := by
    induction hp generalizing r with
    | nil => cases h
    | cons x tl ih => cases r with | zero => exact h | succ r => exact ih r h
  exact ⟨fun _ => this, o, this, rfl, rfl⟩⟩
theorem Ext.app {hp l : List (Option Own)} : Ext hp (hp ++ l) := ⟨by simp, fun r o h => by
  induction hp generalizing r with
  | nil => cases h
  | cons x tl ih => cases r with | zero => exact h | succ r => exact ih r h⟩

section draw
variable {cw : Md} {c : Ctx} {ops : Array Oper} {st : St} {m : Nat} {K : Exit → St → Prop}

theorem D_free (i : Nat) {o : Oper} (v : AV) (ho : ops[i]? = some o) (ht : takeAt cw ops m i = true) (hd : dstLt o.dst c.nt = true) (hf : isFree cw o = true)
    (h : ∀ hp', SVal c ops ⟨restr st.tm (o.looksAt ops), hp'⟩ o v) (k : Dv cw c ops (KE K) (setBit m i) (st.puto o.dst v)) : Dv cw c ops (KE K) m st := .take i o v ho ht ⟨hd, .inl ⟨hf, h⟩⟩ k

theorem D_read (i : Nat) {o : Oper} (v : AV) (ho : ops[i]? = some o) (ht : takeAt cw ops m i = true) (hd : dstLt o.dst c.nt = true) (hf : readOp o.op = true) (hnf : isFree cw o = false)
    (hB : ExtW cw.wl (cw.bs st.hp) st.hp) (h : ∀ hp', ExtW cw.wl (cw.bs st.hp) hp' → SVal c ops ⟨restr st.tm (o.looksAt ops), hp'⟩ o v) (k : Dv cw c ops (KE K) (setBit m i) (st.puto o.dst v)) : Dv cw c ops (KE K) m st := .take i o v ho ht ⟨hd, .inr ⟨⟨hf, hnf⟩, hB, h⟩⟩ k

def allDone (ops : Array Oper) (m : Nat) : Bool := (List.range ops.size).all fun i => !readyAt ops m i
theorem D_done (h : allDone ops m = true) (k : K .normal st) : Dv cw c ops (KE K) m st :=
  .done (fun i hi => by have := List.all_eq_true.1 h i (List.mem_range.2 hi); simpa using this) ⟨st, k, rfl, fun _ => rfl⟩

/-- Only operation number i may come up. -/
def onlyAt (ops : Array Oper) (m i : Nat) : Bool := readyAt ops m i && Nat.blt i ops.size && (List.range ops.size).all fun j => Nat.beq j i || !readyAt ops m j
theorem onlyAt.spec {i : Nat} (h : onlyAt ops m i = true) : readyAt ops m i = true ∧ i < ops.size ∧ ∀ j, j < ops.size → readyAt ops m j = true → j = i := by
  unfold onlyAt at h
  simp only [Bool.and_eq_true] at h
  obtain ⟨⟨h1, h2⟩, h3⟩ := h
  refine ⟨h1, by simpa using h2, fun j hj hr => ?_⟩
  have := List.all_eq_true.1 h3 j (List.mem_range.2 hj)
  rw [hr] at this
  simp only [Bool.not_true, Bool.or_false] at this
  exact Nat.eq_of_beq_eq_true this

theorem D_oneq (i : Nat) {o : Oper} (v : AV) (ho : ops[i]? = some o) (ht : onlyAt ops m i = true) (hd : dstLt o.dst c.nt = true) (hf : isFree cw o = true)
    (h : ∀ hp', SVal c ops ⟨restr st.tm (o.looksAt ops), hp'⟩ o v) (k : Dv cw c ops (KE K) (setBit m i) (st.puto o.dst v)) : Dv cw c ops (KE K) m st := by
  obtain ⟨h1, h2, h3⟩ := onlyAt.spec ht
  refine .branch (fun _ => st.puto o.dst v) ⟨i, h2, h1⟩ (fun j hj hr => ?_) (fun j hj hr => ?_)
  · rw [h3 j hj hr]; exact .q ho ⟨hd, .inl ⟨hf, h⟩⟩
  · rw [h3 j hj hr]; exact k

theorem D_oner (i : Nat) {o : Oper} (v : AV) (ho : ops[i]? = some o) (ht : onlyAt ops m i = true) (hd : dstLt o.dst c.nt = true) (hf : readOp o.op = true) (hnf : isFree cw o = false)
    (hB : ExtW cw.wl (cw.bs st.hp) st.hp) (h : ∀ hp', ExtW cw.wl (cw.bs st.hp) hp' → SVal c ops ⟨restr st.tm (o.looksAt ops), hp'⟩ o v) (k : Dv cw c ops (KE K) (setBit m i) (st.puto o.dst v)) : Dv cw c ops (KE K) m st := by
  obtain ⟨h1, h2, h3⟩ := onlyAt.spec ht
  refine .branch (fun _ => st.puto o.dst v) ⟨i, h2, h1⟩ (fun j hj hr => ?_) (fun j hj hr => ?_)
  · rw [h3 j hj hr]; exact .q ho ⟨hd, .inr ⟨⟨hf, hnf⟩, hB, h⟩⟩
  · rw [h3 j hj hr]; exact k

theorem D_one (i : Nat) {o : Oper} (v : AV) (hp' : List (Option Own)) (ho : ops[i]? = some o) (ht : onlyAt ops m i = true) (hd : dstLt o.dst c.nt = true) (hn : noWrite cw.cw o.op = false)
    (hx : extOp o.op = true → Ext st.hp hp') (hy : cw.fr = true → ExtW cw.wl cw.base hp') (h : WVal c ops ⟨restr st.tm (o.looksAt ops), st.hp⟩ o v hp') (k : Dv cw c ops (KE K) (setBit m i) (St.puto ⟨st.tm, hp'⟩ o.dst v)) : Dv cw c ops (KE K) m st := by
  obtain ⟨h1, h2, h3⟩ := onlyAt.spec ht
  refine .branch (fun _ => St.puto ⟨st.tm, hp'⟩ o.dst v) ⟨i, h2, h1⟩ (fun j hj hr => ?_) (fun j hj hr => ?_)
  · rw [h3 j hj hr]; exact .w ho ⟨hd, hn, hx, hy, h⟩
  · rw [h3 j hj hr]; exact k
end draw

/-- Where ways meet: the states J stand for all that may have come. -/
theorem T_join {c : Ctx} {x y : Code} {st : St} {K : Exit → St → Prop} {ι : Type} (C : ι → Prop) (J : ι → St) (h : T c x st (seqK (fun st' => ∃ i, C i ∧ Ent c st' (J i)) K)) (k : ∀ i, C i → T c y (J i) K) : T c (.seq x y) st K :=
  T_seq (T_mono h fun e st' hk => by
    cases e with
    | normal => obtain ⟨i, hi, he⟩ := hk; exact T_ent he (k i hi)
    | exit id => exact hk
    | goto l => exact hk
    | ret => exact hk
    | panic ch => exact hk
    | outgrown => exact hk)
end Go.Vx
namespace Go.Vx
theorem w_of_q {c : Ctx} {ops : Array Oper} {st : St} {dst : Option Tmp} {op : Op} {ty : TypeId} {pos : String} {after : Array Edge} {v : AV} (h : SVal c ops st ⟨dst, op, ty, pos, after, none⟩ v) : WVal c ops st ⟨dst, op, ty, pos, after, none⟩ v st.hp := by
  intro φ a w hc
  refine ⟨wanted_none rfl, Oper.wp_mono (fun a' w' ⟨u, h1, h2, h3⟩ => ⟨u, φ, h1, hc.hok.below h2, fun av x hr => hr.below h2, h3⟩) ((h φ a w hc).1 (wanted_none rfl))⟩
end Go.Vx
