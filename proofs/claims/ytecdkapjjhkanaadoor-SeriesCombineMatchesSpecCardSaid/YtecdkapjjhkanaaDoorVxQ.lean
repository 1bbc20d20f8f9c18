/- A text of the proof: a verified executor of the program form, or the contracts of the functions that the law reaches. -/
import Derived.Test.YtecdkapjjhkanaaDoorVxP
set_option linter.all false
namespace Go.Vx
open Go Go.RowKit
section
variable {c : Ctx} {ops : Array Oper} {st : St} {dst : Option Tmp} {ty : TypeId} {pos : String} {after : Array Edge}

/-- An array's literal. -/
theorem v_buildA {t len e sz : Nat} {ps : List (Nat × Operand)} {qs : List (Nat × List AV)} {zs : List Value} {ys : List AV} (ht : tArr c.P t len e sz = true) (hz : zeroOf c.P t = some zs)
    (hp : Parts c st ps qs) (hf : fillA (fun i => some (i * sz, sz)) (zs.map constAV) qs = some ys) : SVal c ops st ⟨dst, .build t ps.toArray, ty, pos, after, none⟩ (.agg ys) :=
  .pure rfl fun φ a w hc => by
    obtain ⟨hu, ie, hie, hse⟩ := tArr.spec ht
    unfold zeroOf at hz
    split at hz
    · rename_i i hi
      simp only [Option.map_eq_some_iff] at hz
      obtain ⟨z, hz, rfl⟩ := hz
      obtain ⟨cs', h1, h2, h3⟩ := fill_rel hc (fun i => some (i * sz, sz)) hp z.cells (z.cells.toList.map constAV) ys (by simp) (fun k hk => relF_data (by
        have hk' : k < z.cells.size := by simpa using hk
        have e : (z.cells.toList.map constAV).getD k .any = constAV (z.cells.getD k undef) := by simp [List.getD_eq_getElem?_getD, hk']
        rw [e]
        exact constAV_rel _ _ _ _)) hf
      refine ⟨.agg cs', ?_, relF_aggI h2.symm h3⟩
      have hzr : (zeroValue t).run c.P w = .ok z w := by simp [zeroValue, typeInfo, hi, hz]
      have hso : (sizeOf e).run c.P w = .ok sz w := by simp [sizeOf, typeInfo, hie, hse]
      have : (Instr.build t (ps.map fun p => (p.1, a.eval p.2)).toArray).run c.P w = .ok (.agg cs') w := by
        unfold Instr.build
        simp only [Sem.run_bind, hzr, Result.andThen_ok, run_underlying hu, hso, h1]
        rfl
      have e : (ps.toArray.map fun (p : Nat × Operand) => (p.1, a.eval p.2)) = (ps.map fun p => (p.1, a.eval p.2)).toArray := by simp
      show ((do pure (Next.value (← Instr.build t (ps.toArray.map fun (p : Nat × Operand) => (p.1, a.eval p.2)))) : Sem Next)).run c.P w = _
      rw [e, Sem.run_bind, this]
      rfl
    · cases hz

/-- a[i] of an array that is a value, its elements of one cell. -/
theorem v_indexV {x y : Operand} {t e len m : Nat} {k : IntKind} {z : Int} {l : List AV} {v : AV} (h : Opv c st x (.agg l)) (hy : Opv c st y (.int k z)) (ht : tArr c.P t len e 1 = true) (he : tScal c.P e = true)
    (hz : z = (m : Int)) (hm : m < len) (hv : l[m]? = some v) : SVal c ops st ⟨dst, .index t x y, ty, pos, after, none⟩ v :=
  .pure rfl fun φ a w hc => by
    obtain ⟨hu, ie, hie, hse⟩ := tArr.spec ht
    obtain ⟨i2, d2, hi2, hs2, hu2, hr2, hcs⟩ := tScal.spec he
    obtain ⟨vs, hx, hl, hr⟩ := relF_agg (h φ a w hc)
    have e1 := hy.int hc
    have hml : m < l.length := (List.getElem?_eq_some_iff.1 hv).1
    have hmv : m < vs.size := by omega
    have := hr m hml
    rw [getD_of_get? hv] at this
    refine ⟨vs.getD m undef, ?_, this⟩
    subst hz
    have hpart : (part e vs (m * 1)).run c.P w = .ok (vs.getD m undef) w := by
      have hagg : (isAgg e).run c.P w = .ok false w := by
        unfold isAgg
        rw [Sem.run_bind, run_underlying hu2 w]
        cases d2 <;> simp_all
      unfold part
      simp [hagg, hmv]
    simp [execOp, hx, e1, Instr.index, asIntOf, run_underlying hu, sizeOf, typeInfo, hie, hse, hm]
    rw [Nat.mul_one] at hpart
    rw [hpart]
    simp
end
end Go.Vx
