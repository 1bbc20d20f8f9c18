/- A text of the proof: a verified executor of the program form, or the contracts of the functions that the law reaches. -/
import Derived.Test.YtecdkapjjhkanaaDoorVxI
import Derived.Laws.StructEq
set_option linter.all false
namespace Go.Vx
open Go Go.RowKit

section ops
variable {c : Ctx} {ops : Array Oper} {st : St} {dst : Option Tmp} {ty : TypeId} {pos : String} {after : Array Edge}

theorem Dat.fn {f : FuncId} : Dat c st (.fn f []) (.fn f []) := by
  intro φ a w hc v hv
  have hv := hv φ (fun _ _ => rfl)
  cases hv with
  | data h => exact h
  | fn _ _ vs h1 _ => exact .fn f [] vs h1 (fun i hi => by cases hi)

theorem relF_fn {P : Program} {w : World} {M : Nat → Prop} {n : Nat} {φ : Phi} {f : FuncId} {v : Value} (h : RelF P w M n φ (.fn f []) v) : v = .func (.func f) #[] #[] := by
  have h := h φ (fun _ _ => rfl)
  have key : ∀ vs : Array Value, ([] : List AV).length = vs.size → vs = #[] := fun vs h => by simpa using h.symm
  cases h with
  | data h => cases h with | fn _ _ vs h1 _ => rw [key vs h1]
  | fn _ _ vs h1 _ => rw [key vs h1]

/-- A call through a function value that captures nothing. -/
theorem v_callT {f : FuncId} {t : Tmp} {xs : List Operand} {ts : Array TypeId} {ds : List AV} {res : AV} (hf : Opv c st (.tmp t) (.fn f [])) (hs : CSpec c.P c.gl f ds res) (ha : ArgsD c st xs ds) :
    SVal c ops st ⟨dst, .call { callee := .value (.tmp t), args := xs.toArray, argTypes := ts }, ty, pos, after, none⟩ res := by
  intro φ a w hc
  refine ⟨fun _ => ?_, fun hw => by cases hw⟩
  obtain ⟨hl, hr⟩ := ha.rel hc
  have hfv := relF_fn (hf φ a w hc)
  unfold Oper.wp
  have e : (execOp a.eval ⟨dst, .call { callee := .value (.tmp t), args := xs.toArray, argTypes := ts }, ty, pos, after, none⟩).run c.P w = .ok (.enter f (xs.map a.eval).toArray) w := by
    simp [execOp, resolve, hfv, Deferred.ofValue, invoke, run_callFunc hs.call]
  rw [e]
  refine (hs.spec (Mut c.A φ st.hp) w _ (mut_lt hc) (glob_now hc) (by simpa using hl) (fun i hi => by simpa [Array.getD_eq_getD_getElem?, List.getD_eq_getElem?_getD] using hr i hi)).mono ?_
  rintro e w' ⟨v, rfl, hb, hv⟩
  exact ⟨v, rfl, hb, relF_data hv⟩

/-! ## A slice literal -/

theorem fill_rows {size : Nat} : ∀ (ps : List (Nat × Value)) (k : Nat) (cs : Array Value), (∀ q, q < ps.length → (ps.getD q (0, undef)).1 = k + q) → (∀ p ∈ ps, p.2.cells.size = size) → (k + ps.length) * size ≤ cs.size →
    ∃ cs', Instr.fill (fun i => some (i * size, size)) cs ps = some cs' ∧ cs'.size = cs.size ∧ (∀ x, x < k * size → cs'.getD x undef = cs.getD x undef) ∧
      ∀ q j, q < ps.length → j < size → cs'.getD ((k + q) * size + j) undef = ((ps.getD q (0, undef)).2.cells).getD j undef
  | [], k, cs, _, _, _ => ⟨cs, rfl, rfl, fun _ _ => rfl, fun q j hq => by cases hq⟩
  | p :: ps, k, cs, h1, h2, h3 => by
    obtain ⟨i, v⟩ := p
    have hi : i = k := by have := h1 0 (by simp); simpa using this
    subst hi
    have hv := h2 (i, v) (by simp)
    simp only at hv
    have hb : i * size + size ≤ cs.size := by
      have : (i + 1) * size ≤ (i + ((i, v) :: ps).length) * size := Nat.mul_le_mul_right _ (by simp)
      rw [Nat.add_mul, Nat.one_mul] at this
      omega
    obtain ⟨f1, f2⟩ := foldl_splice (i * size) v.cells.toList 0 cs (by simp [hv]; omega)
    have ef : v.cells.zipIdx.foldl (fun cs (x : Value × Nat) => match x with | (c, j) => cs.setIfInBounds (i * size + j) c) cs = (v.cells.toList.zipIdx 0).foldl (fun cs (x : Value × Nat) => cs.setIfInBounds (i * size + x.2) x.1) cs := by
      rw [← Array.foldl_toList]
      simp
    obtain ⟨cs', g1, g2, g3, g4⟩ := fill_rows ps (i + 1) _ (fun q hq => by have := h1 (q + 1) (by simpa using hq); simp at this ⊢; omega) (fun p hp => h2 p (by simp [hp])) (by
      rw [f1]
      have : i + 1 + ps.length = i + ((i, v) :: ps).length := by simp; omega
      rw [this]; exact h3)
    refine ⟨cs', ?_, by rw [g2, f1], fun x hx => ?_, fun q j hq hj => ?_⟩
    · simp only [Instr.fill]
      have hnot : ¬ ((decide (v.cells.size ≠ size) || decide (i * size + v.cells.size > cs.size)) = true) := by
        simp only [Bool.or_eq_true, decide_eq_true_eq]; omega
      rw [if_neg hnot, ef]
      exact g1
    · rw [g3 x (by rw [Nat.add_mul]; omega), f2 x, if_pos (by omega)]
    · cases q with
      | zero =>
        rw [Nat.add_zero, g3 _ (by rw [Nat.add_mul]; omega), f2, if_neg (by omega), if_pos (by simp [hv]; omega)]
        simp [Array.getD_eq_getD_getElem?, List.getD_eq_getElem?_getD]
      | succ q =>
        have := g4 q j (by simpa using hq) hj
        rw [show i + (q + 1) = i + 1 + q by omega, this]
        simp

/-- Operands and their cells, all of them data. -/
inductive Elems (c : Ctx) (st : St) (sz : Nat) : List (Nat × Operand) → Nat → List (List AV) → Prop
  | nil {k : Nat} : Elems c st sz [] k []
  | cons {k : Nat} {x : Operand} {l : List AV} {ps : List (Nat × Operand)} {ls : List (List AV)} : CellV c st x l → l.length = sz → Pw (Dat c st) l l → Elems c st sz ps (k + 1) ls → Elems c st sz ((k, x) :: ps) k (l :: ls)

theorem Elems.spec {sz : Nat} {ps : List (Nat × Operand)} {k : Nat} {ls : List (List AV)} (h : Elems c st sz ps k ls) {φ : Phi} {a : Act} {w : World} (hc : Conc c φ st a w) :
    ps.length = ls.length ∧ (∀ row ∈ ls, row.length = sz) ∧ (∀ q, q < ps.length → ((ps.map fun p => (p.1, a.eval p.2)).getD q (0, undef)).1 = k + q) ∧ (∀ p ∈ ps.map (fun p => (p.1, a.eval p.2)), p.2.cells.size = sz) ∧
      ∀ q j, q < ps.length → j < sz → RelD c.P w (Mut c.A φ st.hp) (cellAt ls q j) ((((ps.map fun p => (p.1, a.eval p.2)).getD q (0, undef)).2.cells).getD j undef) := by
  induction h with
  | nil => exact ⟨rfl, by simp, (fun q hq => by cases hq), by simp, (fun q j hq => by cases hq)⟩
  | @cons k x l ps ls hx hl hd _ ih =>
    obtain ⟨h1, h2, h3, h4, h5⟩ := ih
    obtain ⟨c1, c2⟩ := hx φ a w hc
    refine ⟨by simp [h1], ?_, fun q hq => ?_, ?_, fun q j hq hj => ?_⟩
    · intro row hrow
      rcases List.mem_cons.1 hrow with rfl | hrow
      · exact hl
      · exact h2 row hrow
    · cases q with
      | zero => simp
      | succ q =>
        have := h3 q (by simpa using hq)
        simp at this ⊢
        omega
    · intro p hp
      rcases List.mem_cons.1 hp with rfl | hp
      · exact c1.trans hl
      · exact h4 p hp
    · cases q with
      | zero =>
        have := hd.get j (by omega) φ a w hc _ (c2 j (by omega))
        simpa [cellAt] using this
      | succ q =>
        have := h5 q j (by simpa using hq) hj
        simpa [cellAt] using this

theorem v_lit {t e sz by_ n : Nat} {ps : List (Nat × Operand)} {ls : List (List AV)} (ht : tSl c.P t e sz by_ = true) (hp : Elems c st sz ps 0 ls) (hn : ps.length = n) (hbig : Nat.ble (n * sz) (2 ^ 24) = true) :
    SVal c ops st ⟨dst, .buildSlice t n ps.toArray, ty, pos, after, none⟩ (.sl e ls) := by
  obtain ⟨hu, inf, z, hi, hs, hby, hn0, hz, hzs, hcs⟩ := tSl.spec ht
  refine .run rfl fun φ a w hc => ?_
  obtain ⟨h1, h2, h3, h4, h5⟩ := hp.spec hc
  have hbig : n * sz ≤ 2 ^ 24 := by simpa using hbig
  have hps : (ps.map fun p => (p.1, a.eval p.2)).length = n := by simpa using hn
  obtain ⟨cs', g1, g2, _, g4⟩ := fill_rows (size := sz) (ps.map fun p => (p.1, a.eval p.2)) 0 ((Array.range (n * sz)).map (z.cells[· % z.cells.size]!)) (fun q hq => by have := h3 q (by simpa using hq); simpa using this) h4 (by simp [hn])
  have hsz : cs'.size = n * sz := by rw [g2]; simp
  have hzero : n * sz ≠ 0 → (zeroValue e).run c.P w = .ok z w := fun _ => by simp [zeroValue, typeInfo, hi, hz]
  refine ⟨.slice (some ⟨w.heap.size, 0, none⟩) n n, w.alloc (.cells cs' e), ?_, (Below.refl _ _).alloc (Nat.le_refl _) _, relF_data ?_⟩
  · have e1 : (ps.toArray.map fun (p : Nat × Operand) => (p.1, a.eval p.2)) = (ps.map fun p => (p.1, a.eval p.2)).toArray := by simp
    have hsize : (sizeOf e).run c.P w = .ok sz w := by simp [sizeOf, typeInfo, hi, hs]
    have hfill : ∀ zero : Array Value, (if n * sz = 0 then zero = #[] else zero = z.cells) → Instr.fill (fun i => some (i * sz, sz)) ((Array.range (n * sz)).map (zero[· % zero.size]!)) (ps.map fun p => (p.1, a.eval p.2)) = some cs' := by
      intro zero hzr
      by_cases h0 : n * sz = 0
      · rw [if_pos h0] at hzr
        rw [← g1]
        congr 1
        simp [h0]
      · rw [if_neg h0] at hzr
        rw [hzr]; exact g1
    have key : (Instr.buildSlice t n (ps.map fun p => (p.1, a.eval p.2)).toArray).run c.P w = .ok (.slice (some ⟨w.heap.size, 0, none⟩) n n) (w.alloc (.cells cs' e)) := by
      unfold Instr.buildSlice
      rw [Sem.run_bind, run_underlying hu]
      simp only [Result.andThen_ok]
      rw [Sem.run_bind, hsize]
      simp only [Result.andThen_ok]
      rw [if_neg (by omega)]
      by_cases h0 : n * sz = 0
      · have := hfill #[] (by rw [if_pos h0])
        simp [h0] at this ⊢
        simp [this, newRow]
      · have := hfill z.cells (by rw [if_neg h0])
        simp [h0, hzero h0, this, newRow]
    show ((do pure (Next.value (← Instr.buildSlice t n (ps.toArray.map fun (p : Nat × Operand) => (p.1, a.eval p.2)))) : Sem Next)).run c.P w = _
    rw [e1, Sem.run_bind, key]
    rfl
  · have hlt : w.heap.size < (w.alloc (.cells cs' e)).heap.size := by simp
    have hnM : ¬ Mut c.A φ st.hp w.heap.size := fun hm => by have := mut_lt hc _ hm; omega
    have hll : ls.length = n := by rw [← h1, hn]
    have hnew : (w.alloc (.cells cs' e)).heap[w.heap.size]? = some (.cells cs' e (0, 0)) := heap_alloc_new w _
    have := RelD.sl (P := c.P) (w := w.alloc (.cells cs' e)) (M := Mut c.A φ st.hp) e ls w.heap.size 0 n (fun i j => cs'.getD (i * sz + j) undef) hlt hnM (by rw [hll]; have : n ≤ n * sz := Nat.le_mul_of_pos_right n hn0; omega) (by omega) (by rw [hcs]; exact h2) (fun i j hi' hj' => by
      rw [hcs] at hj'
      rw [cell_of_cells hnew, hcs, Nat.zero_add]
      have : i * sz + j < cs'.size := by rw [hsz]; exact ix_lt (by omega) hj'
      simp [this]) (fun i j hi' hj' => by
      rw [hcs] at hj'
      have e2 := g4 i j (by rw [hps]; omega) hj'
      rw [Nat.zero_add] at e2
      rw [e2]
      exact (h5 i j (by omega) hj').mono ((Below.refl w.heap.size w).alloc (Nat.le_refl _) _).size (fun b hb _ => ((Below.refl w.heap.size w).alloc (Nat.le_refl _) _).block b hb) (fun _ _ h => h))
    rw [hll] at this
    exact this

/-! ## Equality of structs whose cells are numbers, bools and strings -/

def eqAV : AV → AV → Bool
  | .int _ a, .int _ b => decide (a = b)
  | .bool a, .bool b => a == b
  | .str a, .str b => decide (a = b)
  | _, _ => false
def eqAL : List AV → List AV → Bool
  | [], _ => true
  | _, [] => true
  | x :: l, y :: m => eqAV x y && eqAL l m

/-- The fields of a struct, each a number, a bool or a string, one cell each, one behind the other. -/
inductive Kd | i (k : IntKind) | b | s
def kindOf (P : Program) (t : Nat) : Option Kd := match P.underlying t with
  | some (.int k) => some (.i k)
  | some .bool => some .b
  | some .string => some .s
  | _ => none
def fitKd : Kd → AV → Bool
  | .i k, .int k' _ => decide (k = k')
  | .b, .bool _ => true
  | .s, .str _ => true
  | _, _ => false

def flatFs (P : Program) : Nat → List Field → List Kd → Bool
  | _, [], [] => true
  | n, f :: fs, k :: ks => (f.name != "_") && Nat.beq f.offset n && tScal P f.type && (match kindOf P f.type, k with | some (.i a), .i b => decide (a = b) | some .b, .b => true | some .s, .s => true | _, _ => false) && flatFs P (n + 1) fs ks
  | _, _, _ => false

def flatSt (P : Program) (t : Nat) (ks : List Kd) : Bool := (match P.underlying t with | some (.struct fs) => flatFs P 0 fs.toList ks | _ => false) && !P.stoodInHeld t && !P.eqGuardType P.depth t

def fitKs : List Kd → List AV → Bool
  | [], [] => true
  | k :: ks, v :: vs => fitKd k v && fitKs ks vs
  | _, _ => false

theorem run_eqFields {P : Program} {w : World} {M : Nat → Prop} {xs ys : Array Value} : ∀ (ks : List Kd) (fs : List Field) (n : Nat) (l m : List AV), flatFs P n fs ks = true → fitKs ks l = true → fitKs ks m = true →
    (∀ i, i < l.length → n + i < xs.size ∧ RelD P w M (l.getD i .any) (xs.getD (n + i) undef)) → (∀ i, i < m.length → n + i < ys.size ∧ RelD P w M (m.getD i .any) (ys.getD (n + i) undef)) →
    ∀ d, (Op.eqFields (d + 1) xs ys fs).run P w = .ok (eqAL l m) w
  | [], [], n, l, m, _, hl, hm, _, _ => fun d => by
    cases l with
    | nil => rfl
    | cons => cases hl
  | [], _ :: _, _, _, _, h, _, _, _, _ => by simp [flatFs] at h
  | _ :: _, [], _, _, _, h, _, _, _, _ => by simp [flatFs] at h
  | k :: ks, f :: fs, n, l, m, h, hl, hm, hx, hy => fun d => by
    cases l with
    | nil => cases hl
    | cons x l =>
      cases m with
      | nil => cases hm
      | cons y m =>
        simp only [flatFs, Bool.and_eq_true, bne_iff_ne] at h
        obtain ⟨⟨⟨⟨h1, h2⟩, h3⟩, h4⟩, h5⟩ := h
        have ho := Nat.eq_of_beq_eq_true h2
        simp only [fitKs, Bool.and_eq_true] at hl hm
        obtain ⟨x1, x2⟩ := hx 0 (by simp)
        obtain ⟨y1, y2⟩ := hy 0 (by simp)
        simp only [Nat.add_zero, List.getD_cons_zero] at x1 x2 y1 y2
        have hagg : (isAgg f.type).run P w = .ok false w := by
          obtain ⟨i, dd, hi, _, hu, hd, _⟩ := tScal.spec h3
          unfold isAgg
          rw [Sem.run_bind, run_underlying hu w]
          cases dd <;> simp_all
        have px : (part f.type xs f.offset).run P w = .ok (xs.getD n undef) w := by
          have : xs[n]? = some (xs.getD n undef) := by rw [Array.getElem?_eq_getElem x1]; simp [x1]
          unfold part
          rw [Sem.run_bind, hagg, ho]
          simp only [Result.andThen_ok, Bool.false_eq_true, if_false]
          generalize xs.getD n undef = v at this
          rw [this]; rfl
        have py : (part f.type ys f.offset).run P w = .ok (ys.getD n undef) w := by
          have : ys[n]? = some (ys.getD n undef) := by rw [Array.getElem?_eq_getElem y1]; simp [y1]
          unfold part
          rw [Sem.run_bind, hagg, ho]
          simp only [Result.andThen_ok, Bool.false_eq_true, if_false]
          generalize ys.getD n undef = v at this
          rw [this]; rfl
        have pe : (Op.equalIn (d + 1) f.type (xs.getD n undef) (ys.getD n undef)).run P w = .ok (eqAV x y) w := by
          generalize xs.getD n undef = vx at x2
          generalize ys.getD n undef = vy at y2
          unfold kindOf at h4
          split at h4
          · rename_i a b hk
            split at hk <;> cases hk
            rename_i hu
            have hab : a = b := by simpa using h4
            subst hab
            cases x <;> simp [fitKd] at hl
            cases y <;> simp [fitKd] at hm
            obtain ⟨rfl, _⟩ := hl
            obtain ⟨rfl, _⟩ := hm
            cases x2; cases y2
            rw [run_equalIn_int w d f.type _ _ _ _ hu]
            rfl
          · rename_i hk
            split at hk <;> cases hk
            rename_i hu
            cases x <;> simp [fitKd] at hl
            cases y <;> simp [fitKd] at hm
            cases x2; cases y2
            rw [run_equalIn_bool' w d f.type _ _ hu]
            rfl
          · rename_i hk
            split at hk <;> cases hk
            rename_i hu
            cases x <;> simp [fitKd] at hl
            cases y <;> simp [fitKd] at hm
            cases x2; cases y2
            rw [run_equalIn_string w d f.type _ _ hu]
            simp only [eqAV, ByteArray.toList_eq]
            congr 1
            rw [Bool.eq_iff_iff]; simp
          · cases h4
        have ih := run_eqFields ks fs (n + 1) l m h5 hl.2 hm.2 (fun i hi => by
            have := hx (i + 1) (by simpa using hi)
            simpa [Nat.add_assoc, Nat.add_comm 1 i] using this) (fun i hi => by
            have := hy (i + 1) (by simpa using hi)
            simpa [Nat.add_assoc, Nat.add_comm 1 i] using this) d
        simp only [Op.eqFields, if_pos h1]
        rw [Sem.run_bind, px]
        simp only [Result.andThen_ok]
        rw [Sem.run_bind, py]
        simp only [Result.andThen_ok]
        rw [Sem.run_bind, pe]
        simp only [Result.andThen_ok]
        cases he : eqAV x y
        · simp [eqAL, he]
        · simp only [Bool.not_true, Bool.false_eq_true, if_false, ih]
          simp [eqAL, he]
end ops
end Go.Vx
