/- A text of the proof: a verified executor of the program form, or the contracts of the functions that the law reaches. -/
import Derived.Test.YtecdkapjjhkanaaDoorVxQ
set_option linter.all false
namespace Go.Vx
open Go Go.RowKit
section
variable {c : Ctx} {ops : Array Oper} {st : St} {dst : Option Tmp} {ty : TypeId} {pos : String} {after : Array Edge}
/-- A slice's literal, a row of our own. -/
theorem w_lit {t e sz by_ n r : Nat} {ps : List (Nat × Operand)} {ls : List (List AV)} (hr : st.hp.length = r) (ht : tSl c.P t e sz by_ = true) (hp : Elems c st sz ps 0 ls) (hn : ps.length = n) (hbig : Nat.ble (n * sz) (2 ^ 24) = true) :
    WVal c ops st ⟨dst, .buildSlice t n ps.toArray, ty, pos, after, none⟩ (.own r n) (st.hp ++ [some ⟨e, ls⟩]) := by
  subst hr
  obtain ⟨hu, inf, z, hi, hs, hby, hn0, hz, hzs, hcs⟩ := tSl.spec ht
  refine .run rfl fun φ a w hc => ?_
  obtain ⟨h1, h2, h3, h4, h5⟩ := hp.spec hc
  have hbig : n * sz ≤ 2 ^ 24 := by simpa using hbig
  have hps : (ps.map fun p => (p.1, a.eval p.2)).length = n := by simpa using hn
  obtain ⟨cs', g1, g2, _, g4⟩ := fill_rows (size := sz) (ps.map fun p => (p.1, a.eval p.2)) 0 ((Array.range (n * sz)).map (z.cells[· % z.cells.size]!)) (fun q hq => by have := h3 q (by simpa using hq); simpa using this) h4 (by simp [hn])
  have hsz : cs'.size = n * sz := by rw [g2]; simp
  have hzero : n * sz ≠ 0 → (zeroValue e).run c.P w = .ok z w := fun _ => by simp [zeroValue, typeInfo, hi, hz]
  have hll : ls.length = n := by rw [← h1, hn]
  have hle : n ≤ n * sz := Nat.le_mul_of_pos_right n hn0
  obtain ⟨k1, k2⟩ := own_new (o := ⟨e, ls⟩) (cs := cs') (cap := n) hc.hok (by simp [hsz, hcs]) (by omega) (by simp only [hll]; exact Nat.le_refl _) (by simpa [hcs] using h2) (fun i j hi' hj' => by
    simp only [hcs] at hj' ⊢
    have e2 := g4 i j (by rw [hps]; simp only [hll] at hi'; exact hi') hj'
    rw [Nat.zero_add] at e2
    rw [e2]
    exact relF_data (h5 i j (by rw [hn]; simp only [hll] at hi'; exact hi') hj'))
  refine ⟨.slice (some ⟨w.heap.size, 0, none⟩) n n, _, _, ?_, k1, k2, fun φ' hφ => ?_⟩
  · have e1 : (ps.toArray.map fun (p : Nat × Operand) => (p.1, a.eval p.2)) = (ps.map fun p => (p.1, a.eval p.2)).toArray := by simp
    have hsize : (sizeOf e).run c.P w = .ok sz w := by simp [sizeOf, typeInfo, hi, hs]
    have hfill : ∀ zero : Array Value, (if n * sz = 0 then zero = #[] else zero = z.cells) → Instr.fill (fun i => some (i * sz, sz)) ((Array.range (n * sz)).map (zero[· % zero.size]!)) (ps.map fun p => (p.1, a.eval p.2)) = some cs' := by
      intro zero hzr
      by_cases h0 : n * sz = 0
      · rw [if_pos h0] at hzr
        rw [← g1]
        congr 1
        simp [h0]
      · rw [if_neg h0] at hzr
        rw [hzr]; exact g1
    have key : (Instr.buildSlice t n (ps.map fun p => (p.1, a.eval p.2)).toArray).run c.P w = .ok (.slice (some ⟨w.heap.size, 0, none⟩) n n) (w.alloc (.cells cs' e)) := by
      unfold Instr.buildSlice
      rw [Sem.run_bind, run_underlying hu]
      simp only [Result.andThen_ok]
      rw [Sem.run_bind, hsize]
      simp only [Result.andThen_ok]
      rw [if_neg (by omega)]
      by_cases h0 : n * sz = 0
      · have := hfill #[] (by rw [if_pos h0])
        simp [h0] at this ⊢
        simp [this, newRow]
      · have := hfill z.cells (by rw [if_neg h0])
        simp [h0, hzero h0, this, newRow]
    show ((do pure (Next.value (← Instr.buildSlice t n (ps.toArray.map fun (p : Nat × Operand) => (p.1, a.eval p.2)))) : Sem Next)).run c.P w = _
    rw [e1, Sem.run_bind, key]
    rfl
  · have e1 : φ' st.hp.length = ⟨some w.heap.size, n, ls.length, c.P.cellsOf e⟩ := by
      have := hφ st.hp.length (by simp)
      simpa using this
    exact .own _ n _ rfl (by rw [e1]; simp only [hll]; exact Nat.le_refl _) fun _ => by rw [e1]; rfl
end
end Go.Vx
