/- A text of the proof: a verified executor of the program form, or the contracts of the functions that the law reaches. -/
import Derived.Test.YtecdkapjjhkanaaDoorVxD
set_option linter.all false
namespace Go.Vx
open Go Go.RowKit

/-! ## Facts on types, each closed by the kernel -/

def tAgg (P : Program) (t n : Nat) : Bool :=
  match P.info? t with
  | some i => (Nat.beq i.size n && Nat.blt 0 n) && (match P.underlying t with | some (.struct _) => true | some (.array _ _) => true | _ => false)
  | none => false

def tScal (P : Program) (t : Nat) : Bool :=
  match P.info? t with
  | some i => Nat.beq i.size 1 && (match P.underlying t with | some (.struct _) => false | some (.array _ _) => false | some _ => true | none => false)
  | none => false

/-- A slice type, its elements' type, how many cells and bytes one takes. -/
def tSl (P : Program) (t e n by_ : Nat) : Bool :=
  (match P.underlying t with | some (.slice e') => Nat.beq e' e | _ => false) &&
  (match P.info? e with | some i => Nat.beq i.size n && Nat.beq i.bytes by_ && Nat.blt 0 n && (match i.zero with | some z => Nat.beq z.cells.size n | none => false) | none => false)

def tArr (P : Program) (t len e n : Nat) : Bool :=
  (match P.underlying t with | some (.array l e') => Nat.beq l len && Nat.beq e' e | _ => false) &&
  (match P.info? e with | some i => Nat.beq i.size n | none => false)

def tFld (P : Program) (s f off : Nat) : Bool :=
  match P.underlying s with
  | some (.struct fs) => (match fs[f]? with
    | some fd => Nat.beq fd.offset off && (match P.info? fd.type with | some i => Nat.blt 0 i.size | none => false)
    | none => false)
  | _ => false

def zeroOf (P : Program) (t : Nat) : Option (List Value) := match P.info? t with | some i => i.zero.map fun z => z.cells.toList | none => none

theorem tAgg.spec {P : Program} {t n : Nat} (h : tAgg P t n = true) : ∃ i d, P.info? t = some i ∧ i.size = n ∧ P.underlying t = some d ∧ d.isRow = true ∧ P.cellsOf t = n ∧ 0 < n := by
  unfold tAgg at h
  split at h
  · rename_i i hi
    simp only [Bool.and_eq_true] at h
    have h1 := Nat.eq_of_beq_eq_true h.1.1
    have h0 : 0 < n := by simpa using h.1.2
    have hc : P.cellsOf t = n := by simp [Program.cellsOf, hi, h1]
    split at h
    · exact ⟨i, _, hi, h1, by assumption, rfl, hc, h0⟩
    · exact ⟨i, _, hi, h1, by assumption, rfl, hc, h0⟩
    · simp at h
  · cases h

theorem tScal.spec {P : Program} {t : Nat} (h : tScal P t = true) : ∃ i d, P.info? t = some i ∧ i.size = 1 ∧ P.underlying t = some d ∧ d.isRow = false ∧ P.cellsOf t = 1 := by
  unfold tScal at h
  split at h
  · rename_i i hi
    simp only [Bool.and_eq_true] at h
    have h1 := Nat.eq_of_beq_eq_true h.1
    have hc : P.cellsOf t = 1 := by simp [Program.cellsOf, hi, h1]
    have h2 := h.2
    split at h2
    · cases h2
    · cases h2
    · rename_i d hd1 hd2 hu
      refine ⟨i, d, hi, h1, hu, ?_, hc⟩
      cases d <;> first | rfl | exact absurd rfl (hd1 _) | exact absurd rfl (hd2 _ _)
    · cases h2
  · cases h

theorem tSl.spec {P : Program} {t e n by_ : Nat} (h : tSl P t e n by_ = true) : P.underlying t = some (.slice e) ∧ ∃ i z, P.info? e = some i ∧ i.size = n ∧ i.bytes = by_ ∧ 0 < n ∧ i.zero = some z ∧ z.cells.size = n ∧ P.cellsOf e = n := by
  unfold tSl at h
  simp only [Bool.and_eq_true] at h
  obtain ⟨h1, h2⟩ := h
  split at h1
  · rename_i e' hu
    have he := Nat.eq_of_beq_eq_true h1
    subst he
    split at h2
    · rename_i i hi
      simp only [Bool.and_eq_true] at h2
      obtain ⟨⟨⟨h3, h4⟩, h5⟩, h6⟩ := h2
      split at h6
      · rename_i z hz
        have h3' := Nat.eq_of_beq_eq_true h3
        exact ⟨hu, i, z, hi, h3', Nat.eq_of_beq_eq_true h4, by simpa using h5, hz, Nat.eq_of_beq_eq_true h6, by simp [Program.cellsOf, hi, h3']⟩
      · cases h6
    · cases h2
  · cases h1

theorem tArr.spec {P : Program} {t len e n : Nat} (h : tArr P t len e n = true) : P.underlying t = some (.array len e) ∧ ∃ i, P.info? e = some i ∧ i.size = n := by
  unfold tArr at h
  simp only [Bool.and_eq_true] at h
  obtain ⟨h1, h2⟩ := h
  split at h1
  · rename_i l e' hu
    simp only [Bool.and_eq_true] at h1
    have he := Nat.eq_of_beq_eq_true h1.2
    have hl := Nat.eq_of_beq_eq_true h1.1
    subst he hl
    split at h2
    · rename_i i hi
      exact ⟨hu, i, hi, Nat.eq_of_beq_eq_true h2⟩
    · cases h2
  · cases h1

theorem tFld.spec {P : Program} {s f off : Nat} (h : tFld P s f off = true) : ∃ fs fd i, P.underlying s = some (.struct fs) ∧ fs[f]? = some fd ∧ fd.offset = off ∧ P.info? fd.type = some i ∧ i.size ≠ 0 := by
  unfold tFld at h
  split at h
  · rename_i fs hu
    split at h
    · rename_i fd hf
      simp only [Bool.and_eq_true] at h
      obtain ⟨h1, h2⟩ := h
      split at h2
      · rename_i i hi
        exact ⟨fs, fd, i, hu, hf, Nat.eq_of_beq_eq_true h1, hi, by simp at h2; omega⟩
      · cases h2
    · cases h
  · cases h

/-! ## Reading memory -/

theorem run_loadAt_scal {P : Program} (w : World) (b o t : Nat) (v : Value) (ht : tScal P t = true) (hc : w.cell? ⟨b, o, none⟩ = some v) :
    (Instr.loadAt t (.pointer (some ⟨b, o, none⟩))).run P w = .ok v w := by
  obtain ⟨i, d, hi, _, hu, hd, _⟩ := tScal.spec ht
  have hagg : (isAgg t).run P w = .ok false w := by
    unfold isAgg
    rw [Sem.run_bind, run_underlying hu w]
    cases d <;> simp_all
  simp [Instr.loadAt, Instr.sureAddr, loadVar, Sem.run_bind, hagg, load, Sem.run, hc]

theorem run_loadAt_agg {P : Program} (w : World) (b o t n : Nat) (cs : List Value) (ht : tAgg P t n = true) (hn : cs.length = n) (hc : ∀ j, j < n → w.cell? ⟨b, o + j, none⟩ = some (cs.getD j undef)) :
    (Instr.loadAt t (.pointer (some ⟨b, o, none⟩))).run P w = .ok (.agg cs.toArray) w := by
  obtain ⟨i, d, hi, hs, hu, hd, _, _⟩ := tAgg.spec ht
  refine run_loadAt_mid w b o t cs d (fun j v hv => ?_) hu hd (by simp [hi, hs, hn])
  have hlt : j < cs.length := (List.getElem?_eq_some_iff.1 hv).1
  rw [hc j (by omega)]
  simp [List.getD_eq_getElem?_getD, hv]

theorem cell_of_cells {w : World} {b off : Nat} {cs : Array Value} {e : TypeId} {fr : Nat × Nat} (h : w.heap[b]? = some (.cells cs e fr)) : w.cell? ⟨b, off, none⟩ = cs[off]? := by
  simp [World.cell?, h]

theorem relF_ptr {P : Program} {w : World} {M : Nat → Prop} {m : Nat} {φ : Phi} {r n i j : Nat} {v : Value} (h : RelF P w M m φ (.ptr r n i j) v) :
    (φ r).n = n → ∃ b, (φ r).blk = some b ∧ v = .pointer (some ⟨b, i * (φ r).sz + j, none⟩) := by
  have := h φ (fun _ _ => rfl)
  cases this with
  | data h => cases h
  | ptr _ _ _ _ _ _ _ h => exact h

theorem relF_own {P : Program} {w : World} {M : Nat → Prop} {m : Nat} {φ : Phi} {r n : Nat} {v : Value} (h : RelF P w M m φ (.own r n) v) :
    (φ r).n = n → v = .slice ((φ r).blk.map fun b => ⟨b, 0, none⟩) n (φ r).cap := by
  have := h φ (fun _ _ => rfl)
  cases this with
  | data h => cases h
  | own _ _ _ _ _ h => exact h

theorem rel_agg {P : Program} {w : World} {M : Nat → Prop} {φ : Phi} {l : List AV} {v : Value} (h : Rel P w M φ (.agg l) v) :
    ∃ vs, v = .agg vs ∧ l.length = vs.size ∧ ∀ i, i < l.length → Rel P w M φ (l.getD i .any) (vs.getD i undef) := by
  cases h with
  | data h => cases h with | agg _ vs h1 h2 => exact ⟨vs, rfl, h1, fun i hi => .data (h2 i hi)⟩
  | agg _ vs h1 h2 => exact ⟨vs, rfl, h1, h2⟩

theorem relF_agg {P : Program} {w : World} {M : Nat → Prop} {m : Nat} {φ : Phi} {l : List AV} {v : Value} (h : RelF P w M m φ (.agg l) v) :
    ∃ vs, v = .agg vs ∧ l.length = vs.size ∧ ∀ i, i < l.length → RelF P w M m φ (l.getD i .any) (vs.getD i undef) := by
  obtain ⟨vs, hv, hl, _⟩ := rel_agg (h φ (fun _ _ => rfl))
  refine ⟨vs, hv, hl, fun i hi φ' hφ => ?_⟩
  obtain ⟨vs', hv', _, h2⟩ := rel_agg (h φ' hφ)
  rw [hv] at hv'
  cases hv'
  exact h2 i hi

theorem rel_tuple {P : Program} {w : World} {M : Nat → Prop} {φ : Phi} {l : List AV} {v : Value} (h : Rel P w M φ (.tuple l) v) :
    ∃ vs, v = .tuple vs ∧ l.length = vs.size ∧ ∀ i, i < l.length → Rel P w M φ (l.getD i .any) (vs.getD i undef) := by
  cases h with
  | data h => cases h with | tuple _ vs h1 h2 => exact ⟨vs, rfl, h1, fun i hi => .data (h2 i hi)⟩
  | tuple _ vs h1 h2 => exact ⟨vs, rfl, h1, h2⟩

theorem relF_aggI {P : Program} {w : World} {M : Nat → Prop} {m : Nat} {φ : Phi} {l : List AV} {vs : Array Value} (h1 : l.length = vs.size) (h2 : ∀ i, i < l.length → RelF P w M m φ (l.getD i .any) (vs.getD i undef)) :
    RelF P w M m φ (.agg l) (.agg vs) := fun φ' hφ => .agg l vs h1 fun i hi => h2 i hi φ' hφ

theorem relF_rp {P : Program} {w : World} {M : Nat → Prop} {m : Nat} {φ : Phi} {l : List AV} {off : Nat} {v : Value} (h : RelF P w M m φ (.rp l off) v) : RelD P w M (.rp l off) v := by
  have := h φ (fun _ _ => rfl)
  cases this with | data h => exact h
theorem relF_sl {P : Program} {w : World} {M : Nat → Prop} {m : Nat} {φ : Phi} {e : TypeId} {l : List (List AV)} {v : Value} (h : RelF P w M m φ (.sl e l) v) : RelD P w M (.sl e l) v := by
  have := h φ (fun _ _ => rfl)
  cases this with | data h => exact h

theorem getD_of_get? {α : Type} {l : List α} {i : Nat} {x d : α} (h : l[i]? = some x) : l.getD i d = x := by simp [List.getD_eq_getElem?_getD, h]

theorem ix_lt {i n j m : Nat} (hi : i < n) (hj : j < m) : i * m + j < n * m := by
  have h1 : i * m + j < i * m + m := by omega
  have h2 : i * m + m = (i + 1) * m := by rw [Nat.add_mul, Nat.one_mul]
  have h3 : (i + 1) * m ≤ n * m := Nat.mul_le_mul_right m (by omega)
  omega

section ops
variable {c : Ctx} {ops : Array Oper} {st : St} {dst : Option Tmp} {ty : TypeId} {pos : String} {after : Array Edge}

/-- Of a live object: where it lies, and its cells. -/
theorem live_cells {φ : Phi} {a : Act} {w : World} (hc : Conc c φ st a w) {r : Nat} {o : Own} (ho : nth st.hp r = some o) {i : Nat} {row : List AV} (hrow : o.es[i]? = some row) :
    ∃ b cs, (φ r).blk = some b ∧ (φ r).n = o.es.length ∧ (φ r).sz = row.length ∧ w.heap[b]? = some (.cells cs o.elem (0, 0)) ∧ row.length = c.P.cellsOf o.elem ∧
      cs.size = (φ r).cap * row.length ∧ i < (φ r).cap ∧
      (∀ j, j < row.length → i * row.length + j < cs.size) ∧ ∀ j, j < row.length → RelF c.P w (Mut c.A φ st.hp) st.hp.length φ (row.getD j .any) (cs.getD (i * row.length + j) undef) := by
  have hO := hc.hok.obj r o ho
  have hi : i < o.es.length := (List.getElem?_eq_some_iff.1 hrow).1
  have hmem : row ∈ o.es := List.mem_of_getElem? hrow
  have hrl := hO.rows row hmem
  cases hb : (φ r).blk with
  | none => have := (hO.none hb).1; rw [this] at hi; simp at hi
  | some b =>
    obtain ⟨cs, h1, h2, h3⟩ := hO.some b hb
    have hcap := hO.room
    refine ⟨b, cs, rfl, hO.len, by rw [hO.sz, hrl], h1, hrl, by rw [h2, hrl], by omega, fun j hj => ?_, fun j hj => ?_⟩
    · rw [h2, ← hrl]; exact ix_lt (by omega) hj
    · have := h3 i j hi (by omega)
      rw [hrl]
      unfold cellAt at this
      rw [getD_of_get? hrow] at this
      exact this

theorem v_loadA {x : Operand} {r n i j t sz : Nat} {o : Own} {row l : List AV} (h : Opv c st x (.ptr r n i j)) (ho : nth st.hp r = some o) (hn : o.es.length = n) (hrow : o.es[i]? = some row)
    (ht : tAgg c.P t sz = true) (hl : (row.drop j).take sz = l) (hlen : l.length = sz) : SVal c ops st ⟨dst, .load t x, ty, pos, after, none⟩ (.agg l) :=
  .pure rfl fun φ a w hc => by
    obtain ⟨b, cs, h1, h2, h3, h4, h5, _, _, h6, h7⟩ := live_cells hc ho hrow
    obtain ⟨b', hb', hx⟩ := relF_ptr (h φ a w hc) (by rw [h2, hn])
    rw [h1] at hb'; cases hb'
    obtain ⟨_, _, _, _, _, _, _, hsz0⟩ := tAgg.spec ht
    have hjl : j + sz ≤ row.length := by rw [← hl] at hlen; simp at hlen; omega
    refine ⟨.agg ((cs.toList.drop (i * row.length + j)).take sz).toArray, ?_, ?_⟩
    · simp only [execOp, hx, h3]
      rw [Sem.run_bind, run_loadAt_agg w b (i * row.length + j) t sz _ ht]
      · rfl
      · simp
        have := h6 (j + sz - 1) (by omega)
        omega
      · intro k hk
        rw [cell_of_cells h4]
        have := h6 (j + k) (by omega)
        simp [List.getD_eq_getElem?_getD, hk, List.getElem?_drop]
        have e : i * row.length + j + k = i * row.length + (j + k) := by omega
        rw [e, Array.getElem?_eq_getElem (by omega)]
        simp
    · refine relF_aggI ?_ fun k hk => ?_
      · simp [hlen]
        have := h6 (j + sz - 1) (by omega)
        omega
      · have h8 := h7 (j + k) (by omega)
        have e1 : l.getD k .any = row.getD (j + k) .any := by
          rw [← hl]; simp [List.getD_eq_getElem?_getD, List.getElem?_drop, show k < sz by omega]
        have e2 : ((cs.toList.drop (i * row.length + j)).take sz).toArray.getD k undef = cs.getD (i * row.length + (j + k)) undef := by
          simp [Array.getD_eq_getD_getElem?, List.getElem?_drop, show k < sz by omega, Nat.add_assoc]
        rw [e1, e2]; exact h8

theorem v_loadS {x : Operand} {r n i j t : Nat} {o : Own} {row : List AV} {v : AV} (h : Opv c st x (.ptr r n i j)) (ho : nth st.hp r = some o) (hn : o.es.length = n) (hrow : o.es[i]? = some row)
    (ht : tScal c.P t = true) (hv : row[j]? = some v) : SVal c ops st ⟨dst, .load t x, ty, pos, after, none⟩ v :=
  .pure rfl fun φ a w hc => by
    obtain ⟨b, cs, h1, h2, h3, h4, h5, _, _, h6, h7⟩ := live_cells hc ho hrow
    obtain ⟨b', hb', hx⟩ := relF_ptr (h φ a w hc) (by rw [h2, hn])
    rw [h1] at hb'; cases hb'
    have hj : j < row.length := (List.getElem?_eq_some_iff.1 hv).1
    have h6' := h6 j hj
    refine ⟨cs.getD (i * row.length + j) undef, ?_, ?_⟩
    · simp only [execOp, hx, h3]
      rw [Sem.run_bind, run_loadAt_scal w b (i * row.length + j) t _ ht]
      · rfl
      · rw [cell_of_cells h4, Array.getElem?_eq_getElem h6']; simp [h6']
    · have := h7 j hj
      rw [getD_of_get? hv] at this
      exact this

theorem v_loadA_r {x : Operand} {t sz off : Nat} {cells l : List AV} (h : Opv c st x (.rp cells off)) (ht : tAgg c.P t sz = true) (hl : (cells.drop off).take sz = l) (hlen : l.length = sz) :
    SVal c ops st ⟨dst, .load t x, ty, pos, after, none⟩ (.agg l) :=
  .pure rfl fun φ a w hc => by
    have hr := relF_rp (h φ a w hc)
    generalize hx : a.eval x = ax at hr
    cases hr with
    | rp _ b base _ us hlt hM h1 h2 =>
      obtain ⟨_, _, _, _, _, _, _, hsz0⟩ := tAgg.spec ht
      have hjl : off + sz ≤ cells.length := by rw [← hl] at hlen; simp at hlen; omega
      refine ⟨.agg (((List.range sz).map fun k => us (off + k))).toArray, ?_, ?_⟩
      · simp only [execOp, hx]
        rw [Sem.run_bind, run_loadAt_agg w b (base + off) t sz ((List.range sz).map fun k => us (off + k)) ht]
        · rfl
        · simp
        · intro k hk
          rw [Nat.add_assoc, h1 (off + k) (by omega)]
          simp [List.getD_eq_getElem?_getD, hk]
      · refine relF_aggI (by simp [hlen]) fun k hk => relF_data ?_
        have h8 := h2 (off + k) (by omega)
        have e1 : l.getD k .any = cells.getD (off + k) .any := by
          rw [← hl]; simp [List.getD_eq_getElem?_getD, List.getElem?_drop, show k < sz by omega]
        rw [e1]
        simpa [Array.getD_eq_getD_getElem?, show k < sz by omega] using h8

theorem v_loadS_r {x : Operand} {t off : Nat} {cells : List AV} {v : AV} (h : Opv c st x (.rp cells off)) (ht : tScal c.P t = true) (hv : cells[off]? = some v) :
    SVal c ops st ⟨dst, .load t x, ty, pos, after, none⟩ v :=
  .pure rfl fun φ a w hc => by
    have hr := relF_rp (h φ a w hc)
    generalize hx : a.eval x = ax at hr
    cases hr with
    | rp _ b base _ us hlt hM h1 h2 =>
      have hj : off < cells.length := (List.getElem?_eq_some_iff.1 hv).1
      refine ⟨us off, ?_, relF_data ?_⟩
      · simp only [execOp, hx]
        rw [Sem.run_bind, run_loadAt_scal w b (base + off) t _ ht (h1 off hj)]
        rfl
      · have := h2 off hj
        rw [getD_of_get? hv] at this
        exact this

theorem addr_add (b o n : Nat) : (⟨b, o, none⟩ : Addr).add n = ⟨b, o + n, none⟩ := by unfold Addr.add; split <;> simp_all

theorem run_fieldAt' {P : Program} (w : World) (b o s f off : Nat) (ht : tFld P s f off = true) : (Instr.fieldAt s (.pointer (some ⟨b, o, none⟩)) f).run P w = .ok (.pointer (some ⟨b, o + off, none⟩)) w := by
  obtain ⟨fs, fd, i, hu, hf, ho, hi, hs⟩ := tFld.spec ht
  simp [Instr.fieldAt, run_underlying hu, hf, Instr.sureAddr, fieldPlace, sizeOf, typeInfo, hi, hs, addr_add, ho]

theorem v_fieldP {x : Operand} {r n i j s f off : Nat} {o : Own} (h : Opv c st x (.ptr r n i j)) (ho : nth st.hp r = some o) (hn : o.es.length = n) (ht : tFld c.P s f off = true) :
    SVal c ops st ⟨dst, .fieldAddr s x f, ty, pos, after, none⟩ (.ptr r n i (j + off)) :=
  .pure rfl fun φ a w hc => by
    have hO := hc.hok.obj r o ho
    obtain ⟨b, hb, hx⟩ := relF_ptr (h φ a w hc) (by rw [hO.len, hn])
    refine ⟨.pointer (some ⟨b, i * (φ r).sz + j + off, none⟩), ?_, ?_⟩
    · simp only [execOp, hx]
      rw [Sem.run_bind, run_fieldAt' w b _ s f off ht]
      rfl
    · intro φ' hφ
      have e : φ' r = φ r := hφ r (nth_lt ho)
      refine .ptr r n i (j + off) _ rfl (by rw [e, hO.len, hn]; exact Nat.le_refl _) fun _ => ⟨b, by rw [e]; exact hb, by rw [e, Nat.add_assoc]⟩

theorem v_fieldR {x : Operand} {cells : List AV} {o s f off : Nat} (h : Opv c st x (.rp cells o)) (ht : tFld c.P s f off = true) :
    SVal c ops st ⟨dst, .fieldAddr s x f, ty, pos, after, none⟩ (.rp cells (o + off)) :=
  .pure rfl fun φ a w hc => by
    have hr := relF_rp (h φ a w hc)
    generalize hx : a.eval x = ax at hr
    cases hr with
    | rp _ b base _ us hlt hM h1 h2 =>
      refine ⟨.pointer (some ⟨b, base + o + off, none⟩), ?_, relF_data ?_⟩
      · simp only [execOp, hx]
        rw [Sem.run_bind, run_fieldAt' w b _ s f off ht]
        rfl
      · rw [Nat.add_assoc]; exact .rp cells b base (o + off) us hlt hM h1 h2

/-- s[i] of a slice that came in. -/
theorem v_ixS {x y : Operand} {t e n by_ m : Nat} {k : IntKind} {z : Int} {l : List (List AV)} {row : List AV} (h : Opv c st x (.sl e l)) (hy : Opv c st y (.int k z)) (ht : tSl c.P t e n by_ = true)
    (hz : z = (m : Int)) (hrow : l[m]? = some row) : SVal c ops st ⟨dst, .indexAddr t x y, ty, pos, after, none⟩ (.rp row 0) :=
  .pure rfl fun φ a w hc => by
    have hr := relF_sl (h φ a w hc)
    have e1 := hy.int hc
    obtain ⟨hu, i, zz, hi, hs, hby, hn0, _, _, hcs⟩ := tSl.spec ht
    have hm : m < l.length := (List.getElem?_eq_some_iff.1 hrow).1
    generalize hx : a.eval x = ax at hr
    cases hr with
    | sl0 _ _ _ => simp at hm
    | sl _ _ b off c' us hlt hM h1 h1' h2 h3 h4 =>
      refine ⟨.pointer (some ⟨b, off + m * n, none⟩), ?_, relF_data ?_⟩
      · subst hz
        simp [execOp, hx, e1, Instr.indexAt, asIntOf, run_underlying hu, sizeOf, typeInfo, hi, hs, addr_add]; intro h'; omega
      · have := RelD.rp (P := c.P) (w := w) (M := Mut c.A φ st.hp) row b (off + m * n) 0 (us m) hlt hM (fun j hj => ?_) (fun j hj => ?_)
        · simpa using this
        · have hl := h2 row (List.mem_of_getElem? hrow)
          rw [hcs] at hl
          have := h3 m j hm (by rw [hcs]; omega)
          rw [hcs] at this
          rw [Nat.add_assoc]; exact this
        · have hl := h2 row (List.mem_of_getElem? hrow)
          have := h4 m j hm (by omega)
          unfold cellAt at this
          rw [getD_of_get? hrow] at this
          exact this

/-- s[i] of a slice of our own. -/
theorem v_ixO {x y : Operand} {t e n by_ m r q : Nat} {k : IntKind} {z : Int} {o : Own} (h : Opv c st x (.own r q)) (hy : Opv c st y (.int k z)) (ht : tSl c.P t e n by_ = true)
    (ho : nth st.hp r = some o) (hq : o.es.length = q) (he : c.P.cellsOf o.elem = n) (hz : z = (m : Int)) (hm : m < q) : SVal c ops st ⟨dst, .indexAddr t x y, ty, pos, after, none⟩ (.ptr r q m 0) :=
  .pure rfl fun φ a w hc => by
    have hO := hc.hok.obj r o ho
    have hx := relF_own (h φ a w hc) (by rw [hO.len, hq])
    have e1 := hy.int hc
    obtain ⟨hu, i, zz, hi, hs, hby, hn0, _, _, hcs⟩ := tSl.spec ht
    cases hb : (φ r).blk with
    | none => have := (hO.none hb).1; rw [this] at hq; simp at hq; omega
    | some b =>
      rw [hb] at hx
      refine ⟨.pointer (some ⟨b, 0 + m * n, none⟩), ?_, fun φ' hφ => ?_⟩
      · subst hz
        simp [execOp, hx, e1, Instr.indexAt, asIntOf, run_underlying hu, sizeOf, typeInfo, hi, hs, addr_add]; intro h'; omega
      · have e : φ' r = φ r := hφ r (nth_lt ho)
        refine .ptr r q m 0 _ rfl (by rw [e, hO.len, hq]; exact Nat.le_refl _) fun _ => ⟨b, by rw [e]; exact hb, by rw [e, hO.sz, he]; simp⟩

theorem run_indexAt_arr {P : Program} (w : World) {t len e n : Nat} (ht : tArr P t len e n = true) (b o : Nat) (k : IntKind) (m : Nat) (hm : m < len) :
    (Instr.indexAt t (.pointer (some ⟨b, o, none⟩)) (.int k (m : Int))).run P w = .ok (.pointer (some ⟨b, o + m * n, none⟩)) w := by
  obtain ⟨hu, inf, hi, hs⟩ := tArr.spec ht
  simp [Instr.indexAt, asIntOf, run_underlying hu, sizeOf, typeInfo, hi, hs, addr_add, Instr.sureAddr]
  intro h'; omega

/-- a[i] of an array of our own. -/
theorem v_ixA {x y : Operand} {t e n len m r q i j : Nat} {k : IntKind} {z : Int} {o : Own} (h : Opv c st x (.ptr r q i j)) (hy : Opv c st y (.int k z)) (ht : tArr c.P t len e n = true)
    (ho : nth st.hp r = some o) (hq : o.es.length = q) (hz : z = (m : Int)) (hm : m < len) : SVal c ops st ⟨dst, .indexAddr t x y, ty, pos, after, none⟩ (.ptr r q i (j + m * n)) :=
  .pure rfl fun φ a w hc => by
    have hO := hc.hok.obj r o ho
    obtain ⟨b, hb, hx⟩ := relF_ptr (h φ a w hc) (by rw [hO.len, hq])
    have e1 := hy.int hc
    refine ⟨.pointer (some ⟨b, i * (φ r).sz + j + m * n, none⟩), ?_, fun φ' hφ => ?_⟩
    · subst hz
      simp only [execOp, hx, e1]
      rw [Sem.run_bind, run_indexAt_arr w ht _ _ _ _ hm]
      rfl
    · have e : φ' r = φ r := hφ r (nth_lt ho)
      refine .ptr r q i (j + m * n) _ rfl (by rw [e, hO.len, hq]; exact Nat.le_refl _) fun _ => ⟨b, by rw [e]; exact hb, by rw [e, Nat.add_assoc]⟩

theorem v_ixR {x y : Operand} {t e n len m o : Nat} {cells : List AV} {k : IntKind} {z : Int} (h : Opv c st x (.rp cells o)) (hy : Opv c st y (.int k z)) (ht : tArr c.P t len e n = true)
    (hz : z = (m : Int)) (hm : m < len) : SVal c ops st ⟨dst, .indexAddr t x y, ty, pos, after, none⟩ (.rp cells (o + m * n)) :=
  .pure rfl fun φ a w hc => by
    have hr := relF_rp (h φ a w hc)
    have e1 := hy.int hc
    generalize hx : a.eval x = ax at hr
    cases hr with
    | rp _ b base _ us hlt hM h1 h2 =>
      refine ⟨.pointer (some ⟨b, base + o + m * n, none⟩), ?_, relF_data ?_⟩
      · subst hz
        show ((do pure (Next.value (← Instr.indexAt t (a.eval x) (a.eval y))) : Sem Next)).run c.P w = _
        rw [hx, e1, Sem.run_bind, run_indexAt_arr w ht _ _ _ _ hm]
        rfl
      · rw [Nat.add_assoc]; exact .rp cells b base (o + m * n) us hlt hM h1 h2

theorem v_extract {x : Operand} {l : List AV} {i : Nat} {v : AV} (h : Opv c st x (.tuple l)) (hv : l[i]? = some v) : SVal c ops st ⟨dst, .extract x i, ty, pos, after, none⟩ v :=
  .pure rfl fun φ a w hc => by
    have hi : i < l.length := (List.getElem?_eq_some_iff.1 hv).1
    obtain ⟨vs, hx, hl, _⟩ := rel_tuple (h φ a w hc φ (fun _ _ => rfl))
    refine ⟨vs.getD i undef, ?_, fun φ' hφ => ?_⟩
    · have : vs[i]? = some (vs.getD i undef) := by rw [Array.getElem?_eq_getElem (by omega)]; simp [show i < vs.size by omega]
      have e : Instr.extract (.tuple vs) i = .pure (vs.getD i undef) := by unfold Instr.extract; simp only [this]; rfl
      simp only [execOp, hx, e]
      rfl
    · obtain ⟨vs', hx', _, h2⟩ := rel_tuple (h φ a w hc φ' hφ)
      rw [hx] at hx'; cases hx'
      have := h2 i hi
      rw [getD_of_get? hv] at this
      exact this

end ops
end Go.Vx
