/- A text of the proof: a verified executor of the program form, or the contracts of the functions that the law reaches. -/
import Derived.Test.YtdacciininlfmaaGreatDoorVH
import Derived.OpenShut
import Derived.Test.YtdacciininlfmaaGreatDoorVO
set_option linter.all false
namespace Go.Vx
open Go Go.RowKit Go.ChangeShapes Go.WideShapes
section
variable {H : Type} {enc : TypeId × Value → H} {P : Program} {w : World} {base : Nat} {spare : Nat → Bool} {held : Bool}
end
def wfV {α : Type} {n : Nat} (p : α → Prop) (v : Vector α n) : Prop := ∀ x ∈ v.toList, p x
end Go.Vx

namespace Go.Vx
open Go Go.RowKit
end Go.Vx

namespace Go.Vx
open Go Go.RowKit
def szT (P : Program) (t n : Nat) : Bool := match P.info? t with | some i => Nat.beq i.size n | none => false
theorem szT.spec {P : Program} {t n : Nat} (h : szT P t n = true) : ∃ i, P.info? t = some i ∧ i.size = n := by
  unfold szT at h
  split at h
  · rename_i i hi; exact ⟨i, hi, Nat.eq_of_beq_eq_true h⟩
  · cases h
section ops
variable {c : Ctx} {ops : Array Oper} {st : St} {dst : Option Tmp} {ty : TypeId} {pos : String} {after : Array Edge}
end ops
end Go.Vx

namespace Go.Vx
open Go Go.RowKit
section
variable {c : Ctx} {ops : Array Oper} {st : St} {dst : Option Tmp} {ty : TypeId} {pos : String} {after : Array Edge}
theorem og {g n : Nat} {v : Vector Int n} {f : Int → AV} {k : IntKind} (hm : (g, (v.toList.map fun z => Value.int k z).toArray) ∈ c.gl.tabs) (hf : ∀ z, f z = .int k z) : Opv c st (.global g) (.rp (v.toList.map f) 0) := fun φ a w hc => by
  have hg := (ZeW hc).tab _ hm
  obtain ⟨h1, ⟨e, fr, h2⟩, h3⟩ := hg
  simp only at h1 h2 h3
  have hlt : g < w.heap.size := (Array.getElem?_eq_some_iff.1 h2).1
  show RelF _ _ _ _ _ _ (.pointer (some ⟨g, 0 + 0, none⟩))
  refine Zw (.rp _ g 0 0 (fun j => (v.toList.map fun z => Value.int k z).getD j undef) hlt h3 (fun j hj => ?_) fun j hj => ?_)
  · rw [Z5 h2]
    have hj' : j < n := by simpa using hj
    simp [hj']
  · have hj' : j < n := by simpa using hj
    have e1 : (v.toList.map f).getD j .any = .int k (v.toList.getD j 0) := by simp [List.getD_eq_getElem?_getD, hj', hf]
    have e2 : (v.toList.map fun z => Value.int k z).getD j undef = .int k (v.toList.getD j 0) := by simp [List.getD_eq_getElem?_getD, hj']
    rw [e1, e2]
    exact .int _ _
theorem Zrc {x y z : Operand} {k : IntKind} {m n p q : Int} {ts : Array TypeId} (h : Opv c st x (.int k m)) (h' : Opv c st y (.int k n)) (h'' : Opv c st z (.int k p)) (hz : min (min m n) p = q) :
    SVal c ops st ⟨dst, .call { callee := .builtin .min, args := #[x, y, z], argTypes := ts }, ty, pos, after, none⟩ (.int k q) :=
  .pure rfl fun φ a w hc => by
    refine ⟨.int k q, ?_, Zw (.int _ _)⟩
    have e1 : (if n < m then n else m) = min m n := by split <;> omega
    have e2 : (if p < min m n then p else min m n) = q := by rw [← hz]; split <;> omega
    simp [execOp, resolve, invoke, builtin, h.int hc, h'.int hc, h''.int hc, Builtin.min_, Builtin.min2, e1, e2]
theorem Zqg {α : Type} {m : Nat} {v : Vector α m} {f : α → AV} {ys : List α} {x : Operand} {t e off : Nat} {cells : List AV} {lo hi : Option Operand} {p q : Int} (h : Opv c st x (.rp cells off)) (ht : tArr c.P t m e 1 = true) (he : c.P.cellsOf e = 1)
    (ha : At cells off m (v.toList.map f)) (hm : Nat.ble m 65536 = true) (hl : ZkY c st 0 lo p) (hh : ZkY c st (m : Int) hi q) (hz : slc v.toList p q = some ys) :
    SVal c ops st ⟨dst, .slice t x lo hi none, ty, pos, after, none⟩ (.sl e (ys.map fun u => [f u])) :=
  .pure rfl fun φ a w hc => by
    unfold slc at hz
    split at hz
    · rename_i hb
      cases hz
      obtain ⟨h0, h1, h2⟩ := hb
      simp only [Vector.length_toList] at h2
      have hm := Nat.le_of_ble_eq_true hm
      have hr := Zfa (h φ a w hc)
      generalize hx : a.eval x = ax at hr
      cases hr with
      | rp _ b base _ us g0 g1 g2 g3 =>
      have hbd := Zii hc (isS := false) hl hh h0 h1 (by omega) (Nat.le_refl _)
      have hu : c.P.underlying t = some (.array m e) := (tArr.spec ht).1
      have hs : (sizeOf e).run c.P w = .ok 1 w := by
        obtain ⟨_, i, hi, hin⟩ := tArr.spec ht
        simp [sizeOf, typeInfo, hi, hin]
      have hlen : ((v.toList.take q.toNat).drop p.toNat).length = q.toNat - p.toNat := by simp; omega
      have hL : (((v.toList.take q.toNat).drop p.toNat).map fun u => [f u]).length = q.toNat - p.toNat := by rw [List.length_map, hlen]
      refine ⟨.slice (some ⟨b, (if m = p.toNat then base + off else base + off + p.toNat * 1), none⟩) (q.toNat - p.toNat) (m - p.toNat), ?_, Zw ?_⟩
      · show ((do pure (Next.value (← Instr.sliceAt t (a.eval x) (lo.map a.eval) (hi.map a.eval) none)) : Sem Next)).run c.P w = _
        rw [hx, Sem.run_bind]
        have e : (Instr.sliceAt t (.pointer (some ⟨b, base + off, none⟩)) (lo.map a.eval) (hi.map a.eval) none).run c.P w = .ok (.slice (some ⟨b, (if m = p.toNat then base + off else base + off + p.toNat * 1), none⟩) (q.toNat - p.toNat) (m - p.toNat)) w := by
          unfold Instr.sliceAt
          rw [Sem.run_bind, run_underlying hu]
          simp only [Result.andThen_ok]
          rw [Sem.run_bind]
          have : (Instr.sureAddr (.pointer (some ⟨b, base + off, none⟩))).run c.P w = .ok ⟨b, base + off, none⟩ w := rfl
          rw [this]
          simp only [Result.andThen_ok]
          rw [Sem.run_bind, hbd]
          simp only [Result.andThen_ok]
          rw [Sem.run_bind, hs]
          simp only [Result.andThen_ok]
          split
          · rfl
          · rw [ZcO]; rfl
        rw [e]
        rfl
      · by_cases hpq : q.toNat - p.toNat = 0
        · have : (v.toList.take q.toNat).drop p.toNat = [] := List.eq_nil_of_length_eq_zero (by omega)
          rw [this, hpq]
          exact .sl0 _ _ _
        · rw [if_neg (by omega)]
          have hat := ha.1
          have hal := ha.2
          have hcell : ∀ i, i < q.toNat - p.toNat → off + (p.toNat + i) < cells.length ∧ cellAt (((v.toList.take q.toNat).drop p.toNat).map fun u => [f u]) i 0 = cells.getD (off + (p.toNat + i)) .any := fun i hi => by
            refine ⟨by omega, ?_⟩
            have hv : p.toNat + i < m := by omega
            have e1 : cells.getD (off + (p.toNat + i)) .any = (v.toList.map f).getD (p.toNat + i) .any := by
              rw [← hat]; simp only [List.getD_eq_getElem?_getD, List.getElem?_take, List.getElem?_drop]; rw [if_pos hv]
            rw [e1]
            have : ((v.toList.take q.toNat).drop p.toNat)[i]? = v.toList[p.toNat + i]? := by rw [List.getElem?_drop, List.getElem?_take, if_pos (by omega)]
            unfold cellAt
            simp only [List.getD_eq_getElem?_getD, List.getElem?_map, this]
            simp [hv]
          have := RelD.sl (P := c.P) (w := w) (M := Mut c.A φ st.hp) e (((v.toList.take q.toNat).drop p.toNat).map fun u => [f u]) b (base + off + p.toNat * 1) (m - p.toNat) (fun i _ => us (off + (p.toNat + i))) g0 g1
            (by rw [hL]; omega) (by rw [hL]; omega) (fun row hr => by obtain ⟨z', _, rfl⟩ := List.mem_map.1 hr; rw [he]; rfl)
            (fun i j hi hj => by
              rw [hL] at hi
              rw [he] at hj
              obtain rfl : j = 0 := by omega
              rw [← g2 _ (hcell i hi).1]
              congr 2
              rw [he]; omega)
            (fun i j hi hj => by
              rw [hL] at hi
              rw [he] at hj
              obtain rfl : j = 0 := by omega
              rw [(hcell i hi).2]
              exact g3 _ (hcell i hi).1)
          rw [hL] at this
          exact this
    · cases hz
end
end Go.Vx
namespace Go.Vx
theorem ZnN {α : Type} {n : Nat} {v : Vector α n} {f : α → AV} (h : ∀ x, Flat (f x)) : Flat (.agg (v.toList.map f)) := .agg fun x hx => by
  obtain ⟨y, _, rfl⟩ := List.mem_map.1 hx
  exact h y
end Go.Vx

namespace Go.Vx
open Go Go.RowKit
section draw
variable {cw : Md} {c : Ctx} {ops : Array Oper} {st : St} {m : Nat} {K : Exit → St → Prop}
def ZnE (ops : Array Oper) (m : Nat) (l : List Nat) : Bool := (match l with | i :: _ => readyAt ops m i && Nat.blt i ops.size | [] => false) && (List.range ops.size).all fun k => l.contains k || !readyAt ops m k
inductive Br (cw : Md) (c : Ctx) (ops : Array Oper) (K : Exit → St → Prop) (m : Nat) (st : St) : List Nat → Prop
  | nil : Br cw c ops K m st []
  | w {i : Nat} {o : Oper} {v : AV} {hp' : List (Option Own)} {l : List Nat} : ops[i]? = some o → dstLt o.dst c.nt = true → noWrite cw.cw o.op = false → (extOp o.op = true → Ext st.hp hp') → (cw.fr = true → ExtW cw.wl cw.base hp') →
      WVal c ops ⟨restr st.tm (o.looksAt ops), st.hp⟩ o v hp' → Dv cw c ops (KE c K) (setBit m i) (St.puto ⟨st.tm, hp'⟩ o.dst v) → Br cw c ops K m st l → Br cw c ops K m st (i :: l)
  | q {i : Nat} {o : Oper} {v : AV} {l : List Nat} : ops[i]? = some o → dstLt o.dst c.nt = true → noWrite cw.cw o.op = true →
      SVal c ops ⟨restr st.tm (o.looksAt ops), st.hp⟩ o v → Dv cw c ops (KE c K) (setBit m i) (st.puto o.dst v) → Br cw c ops K m st l → Br cw c ops K m st (i :: l)
theorem Br.get {l : List Nat} (h : Br cw c ops K m st l) : ∀ i, l.contains i = true → ∃ st', SStep cw c ops i st st' ∧ Dv cw c ops (KE c K) (setBit m i) st' := by
  induction h with
  | nil => intro i hi; cases hi
  | @w j o v hp' l ho hd hn hx hy hw k _ ih =>
    intro i hi
    by_cases e : i = j
    · subst e; exact ⟨_, .w ho ⟨hd, hn, hx, hy, hw⟩, k⟩
    · exact ih i (by simpa [List.contains_cons, e] using hi)
  | @q j o v l ho hd hn hw k _ ih =>
    intro i hi
    by_cases e : i = j
    · subst e; exact ⟨_, .q0 ho ⟨hd, hn, hw⟩, k⟩
    · exact ih i (by simpa [List.contains_cons, e] using hi)
theorem ZqP (l : List Nat) (hl : ZnE ops m l = true) (h : Br cw c ops K m st l) : Dv cw c ops (KE c K) m st := by
  unfold ZnE at hl
  rw [Bool.and_eq_true] at hl
  obtain ⟨h1, h2⟩ := hl
  have only : ∀ k, k < ops.size → readyAt ops m k = true → l.contains k = true := fun k hk hr => by
    have := List.all_eq_true.1 h2 k (List.mem_range.2 hk)
    rw [hr] at this
    simpa using this
  have key : ∀ k, ∃ st', k < ops.size → readyAt ops m k = true → SStep cw c ops k st st' ∧ Dv cw c ops (KE c K) (setBit m k) st' := fun k => by
    by_cases hk : k < ops.size ∧ readyAt ops m k = true
    · obtain ⟨st', h⟩ := h.get k (only k hk.1 hk.2)
      exact ⟨st', fun _ _ => h⟩
    · exact ⟨st, fun a b => absurd ⟨a, b⟩ hk⟩
  cases l with
  | nil => cases h1
  | cons i l =>
    simp only [Bool.and_eq_true] at h1
    refine .branch (fun k => (key k).choose) ⟨i, by simpa using h1.2, h1.1⟩ (fun q hq hr => ((key q).choose_spec hq hr).1) (fun q hq hr => ((key q).choose_spec hq hr).2)
end draw
theorem ZmB {V : Type} {m m' : List (Int × V)} (hp : m.Perm m') (nd : (m.map (·.1)).Nodup) (k : Int) : ZaW kqI m k = ZaW kqI m' k := by
  unfold ZaW
  congr 1
  induction hp with
  | nil => rfl
  | cons x _ ih =>
    simp only [List.map_cons, List.nodup_cons] at nd
    simp only [List.find?_cons]
    rw [ih nd.2]
  | swap x y l =>
    simp only [List.map_cons, List.nodup_cons, List.mem_cons, not_or] at nd
    simp only [List.find?_cons, kqI]
    by_cases h1 : k = y.1 <;> by_cases h2 : k = x.1 <;> simp_all
  | trans h1 _ ih1 ih2 => rw [ih1 nd, ih2 ((h1.map _).nodup_iff.1 nd)]
theorem mgP {V : Type} {m m' : List (Int × V)} {k : Int} {z v : V} (hp : m.Perm m') (nd : (m.map (·.1)).Nodup) (h : some ((ZaW kqI m' k).getD z) = some v) : some ((ZaW kqI m k).getD z) = some v := by rw [ZmB hp nd]; exact h
end Go.Vx

namespace Go.Vx
open Go Go.RowKit

end Go.Vx

namespace Go.Vx
open Go Go.RowKit

section
variable {α : Type} {e : TypeId} {R : α → List AV} {m : List (Int × List α)} {k : Int} {xs ys : List α} {fk : Int → AV}

end

section ops
variable {c : Ctx} {ops : Array Oper} {st : St} {dst : Option Tmp} {ty : TypeId} {pos : String} {after : Array Edge}
end ops
end Go.Vx
