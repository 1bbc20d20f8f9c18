/- A text of the proof: a verified executor of the program form, or the contracts of the functions that the law reaches. -/
import Derived.Test.YtecdkapjjhkanaaDoorVyA
import Derived.Lib.Itoa
import Derived.Shelf.Strconv.Itoa2
set_option linter.all false
namespace Go.Vx
open Go Go.RowKit
theorem relF_osl {P : Program} {w : World} {M : Nat → Prop} {m : Nat} {φ : Phi} {r n j len : Nat} {v : Value} (h : RelF P w M m φ (.osl r n j len) v) :
    (φ r).n = n → ∃ b j' cap, (φ r).blk = some b ∧ len ≤ cap ∧ (0 < len → j' = j) ∧ v = .slice (some ⟨b, j', none⟩) len cap := by
  have := h φ (fun _ _ => rfl)
  cases this with
  | data h => cases h
  | osl _ _ _ _ _ _ _ h => exact h
section ops
variable {c : Ctx} {ops : Array Oper} {st : St} {dst : Option Tmp} {ty : TypeId} {pos : String} {after : Array Edge}
/-- a[p:q] of an array of our own. -/
theorem v_slArr {α : Type} {m : Nat} {v : Vector α m} {ys : List α} {x : Operand} {t e r n j : Nat} {lo hi : Option Operand} {p q : Int} {o : Own} (h : Opv c st x (.ptr r n 0 j)) (ht : tArr c.P t m e 1 = true)
    (ho : nth st.hp r = some o) (hn : o.es.length = n) (hl : OptI c st 0 lo p) (hh : OptI c st (m : Int) hi q) (hz : slc v.toList p q = some ys) :
    SVal c ops st ⟨dst, .slice t x lo hi none, ty, pos, after, none⟩ (.osl r n (j + p.toNat) (q - p).toNat) :=
  .pure rfl fun φ a w hc => by
    unfold slc at hz
    split at hz
    · rename_i hb
      cases hz
      obtain ⟨h0, h1, h2⟩ := hb
      simp only [Vector.length_toList] at h2
      have hO := hc.hok.obj r o ho
      obtain ⟨b, hb, hx⟩ := relF_ptr (h φ a w hc) (by rw [hO.len, hn])
      have hm := run_bounds hc (isS := false) hl hh h0 h1 (by omega) (Nat.le_refl _)
      have hu : c.P.underlying t = some (.array m e) := by
        unfold tArr at ht
        simp only [Bool.and_eq_true] at ht
        have := ht.1
        split at this
        · rename_i heq
          simp only [Bool.and_eq_true] at this
          rw [heq, Nat.eq_of_beq_eq_true this.1, Nat.eq_of_beq_eq_true this.2]
        · cases this
      have hs : (sizeOf e).run c.P w = .ok 1 w := by
        unfold tArr at ht
        simp only [Bool.and_eq_true] at ht
        have := ht.2
        split at this
        · rename_i i heq
          have := Nat.eq_of_beq_eq_true this
          simp [sizeOf, typeInfo, heq, this]
        · cases this
      have hlen : ((v.toList.take q.toNat).drop p.toNat).length = q.toNat - p.toNat := by simp; omega
      rw [show (q - p).toNat = q.toNat - p.toNat by omega]
      refine ⟨.slice (some ⟨b, (if m = p.toNat then 0 * (φ r).sz + j else 0 * (φ r).sz + j + p.toNat * 1), none⟩) (q.toNat - p.toNat) (m - p.toNat), ?_, fun φ' hφ => ?_⟩
      · show ((do pure (Next.value (← Instr.sliceAt t (a.eval x) (lo.map a.eval) (hi.map a.eval) none)) : Sem Next)).run c.P w = _
        rw [hx, Sem.run_bind]
        have e : (Instr.sliceAt t (.pointer (some ⟨b, 0 * (φ r).sz + j, none⟩)) (lo.map a.eval) (hi.map a.eval) none).run c.P w = .ok (.slice (some ⟨b, (if m = p.toNat then 0 * (φ r).sz + j else 0 * (φ r).sz + j + p.toNat * 1), none⟩) (q.toNat - p.toNat) (m - p.toNat)) w := by
          unfold Instr.sliceAt
          rw [Sem.run_bind, run_underlying hu]
          simp only [Result.andThen_ok]
          rw [Sem.run_bind]
          have : (Instr.sureAddr (.pointer (some ⟨b, 0 * (φ r).sz + j, none⟩))).run c.P w = .ok ⟨b, 0 * (φ r).sz + j, none⟩ w := rfl
          rw [this]
          simp only [Result.andThen_ok]
          rw [Sem.run_bind, hm]
          simp only [Result.andThen_ok]
          rw [Sem.run_bind, hs]
          simp only [Result.andThen_ok]
          split
          · rfl
          · rw [addr_add]; rfl
        rw [e]
        rfl
      · have e : φ' r = φ r := hφ r (nth_lt ho)
        refine .osl r n (j + p.toNat) _ _ rfl (by rw [e, hO.len, hn]; exact Nat.le_refl _) fun _ => ⟨b, _, m - p.toNat, by rw [e]; exact hb, by omega, fun hpos => ?_, rfl⟩
        rw [if_neg (by omega)]; omega
    · cases hz
/-- A piece of an array of our own, read. -/
theorem slv_osl {α : Type} {m : Nat} {v : Vector α m} {f : α → AV} {y : Operand} {r e : Nat} {p q : Int} {ys : List α} (h : Opv c st y (.osl r 1 (0 + p.toNat) (q - p).toNat)) (hz : slc v.toList p q = some ys)
    (ho : nth st.hp r = some ⟨e, [v.toList.map f]⟩) (hm : Nat.ble m 65536 = true) : SlV c st y 1 (ys.map fun u => [f u]) := by
  intro φ a w hc
  have hO := hc.hok.obj r _ ho
  obtain ⟨b, j', cap, hb, hle, hj, hx⟩ := relF_osl (h φ a w hc) hO.len
  obtain ⟨cs, h1, h2, h3⟩ := hO.some b hb
  unfold slc at hz
  split at hz
  · rename_i hbd
    cases hz
    obtain ⟨h0, hpq, hqm⟩ := hbd
    simp only [Vector.length_toList] at hqm
    have hrow := hO.rows _ (List.mem_singleton.2 rfl)
    simp only [List.length_map, Vector.length_toList] at hrow
    have hcap := hO.cap
    have hroom := hO.room
    simp only [List.length_singleton] at hroom
    have hlen : ((v.toList.take q.toNat).drop p.toNat).length = q.toNat - p.toNat := by simp; omega
    refine ⟨_, cap, by rw [List.length_map, hlen, ← show (q - p).toNat = q.toNat - p.toNat by omega]; exact hx, by simp only [List.length_map, hlen]; have := Nat.le_of_ble_eq_true hm; omega, fun row hr => by obtain ⟨u, _, rfl⟩ := List.mem_map.1 hr; rfl, fun hne => ?_⟩
    have hqp : (q - p).toNat = q.toNat - p.toNat := by omega
    rw [hqp, ← hlen] at hx hj
    have hpos : 0 < ((v.toList.take q.toNat).drop p.toNat).length := by
      rcases Nat.eq_zero_or_pos ((v.toList.take q.toNat).drop p.toNat).length with h | h
      · exact absurd (by rw [List.length_eq_zero_iff.1 h]; rfl) hne
      · exact h
    rw [hj hpos]
    refine ⟨b, 0 + p.toNat, fun i k => cs.getD (p.toNat + i) undef, rfl, fun i k hi hk => ?_, fun i k hi hk => ?_⟩
    · rw [cell_of_cells h1]
      have : k = 0 := by omega
      subst this
      rw [List.length_map, hlen] at hi
      have : m ≤ cs.size := by rw [h2, ← hrow]; exact Nat.le_mul_of_pos_left _ hroom
      have : p.toNat + i < cs.size := by omega
      simp [this]
    · have : k = 0 := by omega
      subst this
      rw [List.length_map, hlen] at hi
      have := h3 0 (p.toNat + i) (by simp) (by rw [← hrow]; omega)
      rw [Nat.zero_mul, Nat.zero_add] at this
      have e : cellAt (((v.toList.take q.toNat).drop p.toNat).map fun u => [f u]) i 0 = cellAt [v.toList.map f] 0 (p.toNat + i) := by
        have h5 : i < q.toNat - p.toNat := hi
        simp [cellAt, List.getD_eq_getElem?_getD, List.getElem?_drop, List.getElem?_take, show p.toNat + i < q.toNat by omega, show p.toNat + i < m by omega]
      rw [e]; exact this
  · cases hz
end ops
end Go.Vx
