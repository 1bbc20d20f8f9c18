/- A text of the proof: a verified executor of the program form, or the contracts of the functions that the law reaches. -/
import Derived.Test.YtecdkapjjhkanaaDoorVxF
set_option linter.all false
namespace Go.Vx
open Go Go.RowKit

section ops
variable {c : Ctx} {ops : Array Oper} {st : St} {dst : Option Tmp} {ty : TypeId} {pos : String} {after : Array Edge}

theorem WVal.skip {o : Oper} {v : AV} {hp' : List (Option Own)} (hg : o.guard = none)
    (h : ∀ φ a w, Conc c φ st a w → ∃ w' φ', (execOp a.eval o).run c.P w = .ok .skip w' ∧ HeapOK c φ' hp' w' ∧
      (∀ av x, RelF c.P w (Mut c.A φ st.hp) st.hp.length φ av x → RelF c.P w' (Mut c.A φ' hp') hp'.length φ' av x) ∧ RelF c.P w' (Mut c.A φ' hp') hp'.length φ' v undef) : WVal c ops st o v hp' := by
  intro φ a w hc
  refine ⟨wanted_none hg, ?_⟩
  obtain ⟨w', φ', h1, h2, h3, h4⟩ := h φ a w hc
  unfold Oper.wp
  rw [h1]
  exact ⟨undef, φ', rfl, h2, h3, h4⟩

/-- The cells of a value, by its type. -/
def CellsOf (P : Program) (t : Nat) (v : AV) (l : List AV) : Prop := (v = .agg l ∧ tAgg P t l.length = true) ∨ (l = [v] ∧ tScal P t = true)

theorem cells_agg {P : Program} {t n : Nat} {l : List AV} (h : tAgg P t n = true) (hl : l.length = n) : CellsOf P t (.agg l) l := .inl ⟨rfl, by rw [hl]; exact h⟩
theorem cells_scal {P : Program} {t : Nat} {v : AV} (h : tScal P t = true) : CellsOf P t v [v] := .inr ⟨rfl, h⟩

theorem w_store {x y : Operand} {t r n i j : Nat} {o : Own} {v : AV} {row l row' : List AV} (h : Opv c st x (.ptr r n i j)) (hy : Opv c st y v) (ht : CellsOf c.P t v l)
    (ho : nth st.hp r = some o) (hn : o.es.length = n) (hrow : o.es[i]? = some row) (hlen : j + l.length ≤ row.length) (h1 : ∀ u ∈ l, Cell1 c st u)
    (hrow' : row.take j ++ (l ++ row.drop (j + l.length)) = row') :
    WVal c ops st ⟨none, .store t x y, ty, pos, after, none⟩ .any (setO st.hp r (some ⟨o.elem, o.es.set i row'⟩)) := by
  refine .skip rfl fun φ a w hc => ?_
  have hO := hc.hok.obj r o ho
  obtain ⟨b, hb, hx⟩ := relF_ptr (h φ a w hc) (by rw [hO.len, hn])
  have hyv := hy φ a w hc
  -- the value's cells
  have key : ∃ vs : List Value, (a.eval y).cells = vs.toArray ∧ vs.length = l.length ∧ (∀ k, k < l.length → RelF c.P w (Mut c.A φ st.hp) st.hp.length φ (l.getD k .any) (vs.getD k undef)) ∧
      (∀ u ∈ vs, u.oneCell' = true) ∧ (sizeOf t).run c.P w = .ok l.length w := by
    rcases ht with ⟨rfl, ht⟩ | ⟨rfl, ht⟩
    · obtain ⟨vs, hv, hvl, h2⟩ := relF_agg hyv
      obtain ⟨inf, d, hi, hs, _, _, _, _⟩ := tAgg.spec ht
      refine ⟨vs.toList, by rw [hv]; rfl, by simp [hvl], fun k hk => ?_, ?_, ?_⟩
      · have := h2 k hk
        simpa [Array.getD_eq_getD_getElem?, List.getD_eq_getElem?_getD] using this
      · intro u hu
        obtain ⟨k, hk, rfl⟩ := List.getElem_of_mem hu
        simp at hk
        have := h2 k (by omega)
        have hm : l.getD k .any ∈ l := by simp [List.getD_eq_getElem?_getD, show k < l.length by omega]
        have := h1 _ hm φ a w hc _ this
        simpa [hk] using this
      · simp [sizeOf, typeInfo, hi, hs]
    · obtain ⟨inf, d, hi, hs, _, _, _⟩ := tScal.spec ht
      have h2 := h1 v (by simp) φ a w hc _ hyv
      refine ⟨[a.eval y], by rw [cells_one h2], by simp, fun k hk => ?_, by simpa using h2, by simp [sizeOf, typeInfo, hi, hs]⟩
      simp at hk
      subst hk
      simpa using hyv
  obtain ⟨vs, hvc, hvl, hvs, hv1, hsz⟩ := key
  obtain ⟨w', hst, hh, hf⟩ := store_core hc ho hn hrow hlen hvl hvs hv1 hrow' hb
  refine ⟨w', φ, ?_, hh, hf, relF_data (.any _)⟩
  have e : (Instr.storeAt t (a.eval x) (a.eval y)).run c.P w = .ok () w' := by
    rw [hx]
    simp [Instr.storeAt, Instr.sureAddr, storeVar, hsz, hvc, hvl, hst]
  show ((do Instr.storeAt t (a.eval x) (a.eval y); pure Next.skip : Sem Next)).run c.P w = _
  rw [Sem.run_bind, e]
  rfl

/-! ## Slices, whosever they are -/

/-- Operand y is a slice with these elements, which may be read now. -/
def SlV (c : Ctx) (st : St) (y : Operand) (sz : Nat) (ys : List (List AV)) : Prop := ∀ φ a w, Conc c φ st a w → ∃ base cap, a.eval y = .slice base ys.length cap ∧ ys.length < 2 ^ 63 ∧ (∀ row ∈ ys, row.length = sz) ∧
  (ys ≠ [] → ∃ (b off : Nat) (us : Nat → Nat → Value), base = some ⟨b, off, none⟩ ∧ (∀ i j, i < ys.length → j < sz → w.cell? ⟨b, off + (i * sz + j), none⟩ = some (us i j)) ∧
    (∀ i j, i < ys.length → j < sz → RelF c.P w (Mut c.A φ st.hp) st.hp.length φ (cellAt ys i j) (us i j)))

theorem slv_sl {y : Operand} {e sz : Nat} {ys : List (List AV)} (h : Opv c st y (.sl e ys)) (hsz : c.P.cellsOf e = sz) : SlV c st y sz ys := by
  intro φ a w hc
  have hr := relF_sl (h φ a w hc)
  generalize hx : a.eval y = ay at hr
  subst hsz
  cases hr with
  | sl0 _ ad cp => exact ⟨ad, cp, rfl, by simp, by simp, fun h => absurd rfl h⟩
  | sl _ _ b off cp us h0 h1 h2 h2' h3 h4 h5 => exact ⟨_, cp, rfl, h2, h3, fun _ => ⟨b, off, us, rfl, h4, fun i j hi hj => relF_data (h5 i j hi hj)⟩⟩

theorem slv_nils {y : Operand} {sz : Nat} (h : Opv c st y .nils) : SlV c st y sz [] := by
  intro φ a w hc
  have hr := h φ a w hc φ (fun _ _ => rfl)
  generalize hx : a.eval y = ay at hr
  cases hr with | data h => cases h; exact ⟨none, 0, rfl, by simp, by simp, fun h => absurd rfl h⟩

theorem slv_own {y : Operand} {r n sz : Nat} {o : Own} (h : Opv c st y (.own r n)) (ho : nth st.hp r = some o) (hn : o.es.length = n) (hsz : c.P.cellsOf o.elem = sz) : SlV c st y sz o.es := by
  intro φ a w hc
  have hO := hc.hok.obj r o ho
  have hx := relF_own (h φ a w hc) (by rw [hO.len, hn])
  refine ⟨_, (φ r).cap, by rw [hx, hn], Nat.lt_of_le_of_lt hO.room hO.cap, by rw [← hsz]; exact hO.rows, fun hne => ?_⟩
  cases hb : (φ r).blk with
  | none => exact absurd (hO.none hb).1 hne
  | some b =>
    obtain ⟨cs, h1, h2, h3⟩ := hO.some b hb
    refine ⟨b, 0, fun i j => cs.getD (i * c.P.cellsOf o.elem + j) undef, rfl, fun i j hi hj => ?_, fun i j hi hj => ?_⟩
    · rw [cell_of_cells h1, hsz]
      have hroom := hO.room
      have : i * sz + j < cs.size := by rw [h2, hsz]; exact ix_lt (by omega) hj
      simp [this]
    · exact h3 i j hi (by rw [hsz]; exact hj)

theorem v_len {y : Operand} {t e sz by_ : Nat} {ys : List (List AV)} {z : Int} (h : SlV c st y sz ys) (ht : tSl c.P t e sz by_ = true) (hz : (ys.length : Int) = z) :
    SVal c ops st ⟨dst, .call { callee := .builtin .len, args := #[y], argTypes := #[t] }, ty, pos, after, none⟩ (.int .i64 z) :=
  .pure rfl fun φ a w hc => by
    obtain ⟨base, cap, hx, _⟩ := h φ a w hc
    obtain ⟨hu, _⟩ := tSl.spec ht
    refine ⟨.int .i64 z, ?_, relF_data (.int _ _)⟩
    simp [execOp, resolve, invoke, builtin, hx, Builtin.len_, run_underlying hu, goInt, hz]

def tStr (P : Program) (t : Nat) : Bool := match P.underlying t with | some .string => true | _ => false
theorem tStr.spec {P : Program} {t : Nat} (h : tStr P t = true) : P.underlying t = some .string := by
  unfold tStr at h; split at h; assumption; cases h

theorem v_lenStr {y : Operand} {t : Nat} {s : List UInt8} {z : Int} (h : Opv c st y (.str s)) (ht : tStr c.P t = true) (hz : (s.length : Int) = z) :
    SVal c ops st ⟨dst, .call { callee := .builtin .len, args := #[y], argTypes := #[t] }, ty, pos, after, none⟩ (.int .i64 z) :=
  .pure rfl fun φ a w hc => by
    have hu := tStr.spec ht
    refine ⟨.int .i64 z, ?_, relF_data (.int _ _)⟩
    have : (ByteArray.mk s.toArray).size = s.length := by simp [ByteArray.size]
    simp [execOp, resolve, invoke, builtin, h.str hc, Builtin.len_, run_underlying hu, goInt, this, hz]

theorem v_max {x y : Operand} {k : IntKind} {m n z : Int} {ts : Array TypeId} (h : Opv c st x (.int k m)) (h' : Opv c st y (.int k n)) (hz : max m n = z) :
    SVal c ops st ⟨dst, .call { callee := .builtin .max, args := #[x, y], argTypes := ts }, ty, pos, after, none⟩ (.int k z) :=
  .pure rfl fun φ a w hc => by
    refine ⟨.int k z, ?_, relF_data (.int _ _)⟩
    have : (if n > m then n else m) = z := by rw [← hz]; split <;> omega
    simp [execOp, resolve, invoke, builtin, h.int hc, h'.int hc, Builtin.max_, Builtin.max2, this]

theorem v_min {x y : Operand} {k : IntKind} {m n z : Int} {ts : Array TypeId} (h : Opv c st x (.int k m)) (h' : Opv c st y (.int k n)) (hz : min m n = z) :
    SVal c ops st ⟨dst, .call { callee := .builtin .min, args := #[x, y], argTypes := ts }, ty, pos, after, none⟩ (.int k z) :=
  .pure rfl fun φ a w hc => by
    refine ⟨.int k z, ?_, relF_data (.int _ _)⟩
    have : (if n < m then n else m) = z := by rw [← hz]; split <;> omega
    simp [execOp, resolve, invoke, builtin, h.int hc, h'.int hc, Builtin.min_, Builtin.min2, this]

def tInt (P : Program) (t : Nat) (k : IntKind) : Bool := match P.underlying t with | some (.int k') => decide (k' = k) | _ => false
theorem tInt.spec {P : Program} {t : Nat} {k : IntKind} (h : tInt P t k = true) : P.underlying t = some (.int k) := by
  unfold tInt at h
  split at h
  · rename_i k' hu; simp at h; rw [hu, h]
  · cases h

theorem v_conv {x : Operand} {s t : Nat} {k k' : IntKind} {m z : Int} (h : Opv c st x (.int k m)) (hs : tInt c.P s k = true) (ht : tInt c.P t k' = true) (hz : k'.wrap m = z) :
    SVal c ops st ⟨dst, .convert s t x, ty, pos, after, none⟩ (.int k' z) :=
  .pure rfl fun φ a w hc => by
    refine ⟨.int k' z, ?_, relF_data (.int _ _)⟩
    simp [execOp, h.int hc, convert, run_underlying (tInt.spec hs), run_underlying (tInt.spec ht), Conv.intToInt, hz]

/-! ## append -/

/-- One row's cells, end to end. -/
def flatL (ys : List (List AV)) : List AV := ys.flatten

theorem news_of {φ : Phi} {a : Act} {w : World} {sz : Nat} {ys : List (List AV)} (_hc : Conc c φ st a w) {b off : Nat} {us : Nat → Nat → Value}
    (h1 : ∀ i j, i < ys.length → j < sz → w.cell? ⟨b, off + (i * sz + j), none⟩ = some (us i j)) (hsz : 0 < sz) :
    ∃ news : List Value, news.length = ys.length * sz ∧ (∀ j u, news[j]? = some u → w.cell? ((⟨b, off, none⟩ : Addr).add j) = some u) ∧ (∀ i j, i < ys.length → j < sz → news.getD (i * sz + j) undef = us i j) := by
  refine ⟨(List.range (ys.length * sz)).map fun k => us (k / sz) (k % sz), by simp, fun k u hk => ?_, fun i j hi hj => ?_⟩
  · have hlt : k < ys.length * sz := by
      have := (List.getElem?_eq_some_iff.1 hk).1
      simpa using this
    have hu : us (k / sz) (k % sz) = u := by simpa [hlt] using hk
    rw [addr_add, ← hu, ← h1 (k / sz) (k % sz) (Nat.div_lt_of_lt_mul (by rw [Nat.mul_comm]; exact hlt)) (Nat.mod_lt _ hsz)]
    have : k / sz * sz + k % sz = k := by rw [Nat.mul_comm]; exact Nat.div_add_mod k sz
    rw [this]
  · have hlt : i * sz + j < ys.length * sz := ix_lt hi hj
    have h1 : (i * sz + j) / sz = i := by rw [Nat.mul_comm, Nat.mul_add_div hsz, Nat.div_eq_of_lt hj]; omega
    have h2 : (i * sz + j) % sz = j := by rw [Nat.mul_comm, Nat.mul_add_mod, Nat.mod_eq_of_lt hj]
    simp [List.getD_eq_getElem?_getD, hlt, h1, h2]

theorem cellAt_append_left {xs ys : List (List AV)} {i j : Nat} (h : i < xs.length) : cellAt (xs ++ ys) i j = cellAt xs i j := by simp [cellAt, List.getD_eq_getElem?_getD, List.getElem?_append_left h]
theorem cellAt_append_right {xs ys : List (List AV)} {i j : Nat} (h : xs.length ≤ i) : cellAt (xs ++ ys) i j = cellAt ys (i - xs.length) j := by simp [cellAt, List.getD_eq_getElem?_getD, List.getElem?_append_right h]

theorem app_getD (olds news : List Value) (Z : Array Value) (k : Nat) : (olds.toArray ++ news.toArray ++ Z).getD k undef =
    if k < olds.length then olds.getD k undef else if k < olds.length + news.length then news.getD (k - olds.length) undef else Z.getD (k - olds.length - news.length) undef := by
  simp only [Array.getD_eq_getD_getElem?, Array.getElem?_append, Array.size_append, List.size_toArray, List.getElem?_toArray, List.getD_eq_getElem?_getD]
  by_cases h1 : k < olds.length
  · rw [if_pos (by omega), if_pos h1, if_pos h1]
  · by_cases h2 : k < olds.length + news.length
    · rw [if_pos h2, if_neg h1, if_neg h1, if_pos h2]
    · rw [if_neg h2, if_neg h1, if_neg h2]
      congr 2
      omega

/-- out = append(out, ys...), out our own. -/
theorem w_append {x y : Operand} {t e sz by_ r n m : Nat} {o : Own} {ys : List (List AV)} (h : Opv c st x (.own r n)) (hy : SlV c st y sz ys) (ht : tSl c.P t e sz by_ = true)
    (ho : nth st.hp r = some o) (hn : o.es.length = n) (he : o.elem = e) (hm : ys.length = m) (hpos : 0 < m) (h1 : ∀ row ∈ ys, ∀ u ∈ row, Cell1 c st u) (hb : (n + m) * by_ ≤ 140737488355328) (h63 : n + m < 2 ^ 63) :
    WVal c ops st ⟨dst, .call { callee := .builtin .append, args := #[x, y], argTypes := #[t, t] }, ty, pos, after, none⟩ (.own r (n + m)) (setO st.hp r (some ⟨e, o.es ++ ys⟩)) := by
  subst he
  refine .run rfl fun φ a w hc => ?_
  obtain ⟨hu, inf, z, hi, hs, hby, hn0, hz, hzs, hcs⟩ := tSl.spec ht
  have hO := hc.hok.obj r o ho
  have hx := relF_own (h φ a w hc) (by rw [hO.len, hn])
  obtain ⟨base, cap, hyv, _, hyr, hyc⟩ := hy φ a w hc
  have hyne : ys ≠ [] := fun e => by rw [e] at hm; simp at hm; omega
  obtain ⟨b, off, us, rfl, hc1, hc2⟩ := hyc hyne
  obtain ⟨news, hnl, hn1, hn2⟩ := news_of hc hc1 hn0
  rw [hm] at hnl hyv
  have hone : ∀ u ∈ news, u.oneCell' = true := by
    intro u hu'
    obtain ⟨k, hk, rfl⟩ := List.getElem_of_mem hu'
    have hk' : k < ys.length * sz := by rw [hm]; omega
    have hdi : k / sz < ys.length := Nat.div_lt_of_lt_mul (by rw [Nat.mul_comm]; exact hk')
    have hmo : k % sz < sz := Nat.mod_lt _ hn0
    have e1 : k / sz * sz + k % sz = k := by rw [Nat.mul_comm]; exact Nat.div_add_mod k sz
    have e2 := hn2 (k / sz) (k % sz) hdi hmo
    rw [e1] at e2
    have e3 : news[k] = us (k / sz) (k % sz) := by rw [← e2]; simp [List.getD_eq_getElem?_getD, hk]
    rw [e3]
    have hrow : ys[k / sz] ∈ ys := List.getElem_mem hdi
    refine h1 _ hrow (cellAt ys (k / sz) (k % sz)) ?_ φ a w hc _ (hc2 _ _ hdi hmo)
    have hl := hyr _ hrow
    have : cellAt ys (k / sz) (k % sz) = ys[k / sz][k % sz]'(by omega) := by simp [cellAt, List.getD_eq_getElem?_getD, hdi, hl, hmo]
    rw [this]
    exact List.getElem_mem _
  have h2n : (o.es ++ ys).length = n + m := by simp [hn, hm]
  have hrl : r < st.hp.length := nth_lt ho
  -- whatever has come of it
  have fin : ∀ (w' : World) (L : Loc) (g : Nat) (cs : Array Value), w'.os = w.os → w'.tape = w.tape → w'.output = w.output → w.heap.size ≤ w'.heap.size →
      (∀ b, b < w.heap.size → (φ r).blk ≠ some b → w'.heap[b]? = w.heap[b]?) → (L.blk = (φ r).blk ∨ w.heap.size ≤ g) → L.blk = some g → L.n = n + m → L.sz = sz → L.cap < 2 ^ 63 → n + m ≤ L.cap →
      w'.heap[g]? = some (.cells cs o.elem (0, 0)) → cs.size = L.cap * sz → (∀ i j, i < n → j < sz → ∃ b csO, (φ r).blk = some b ∧ w.heap[b]? = some (.cells csO o.elem (0, 0)) ∧ cs.getD (i * sz + j) undef = csO.getD (i * sz + j) undef) →
      (∀ i j, i < m → j < sz → cs.getD ((n + i) * sz + j) undef = us i j) →
      ∃ φ', HeapOK c φ' (setO st.hp r (some ⟨o.elem, o.es ++ ys⟩)) w' ∧
      (∀ av x, RelF c.P w (Mut c.A φ st.hp) st.hp.length φ av x → RelF c.P w' (Mut c.A φ' (setO st.hp r (some ⟨o.elem, o.es ++ ys⟩))) (setO st.hp r (some ⟨o.elem, o.es ++ ys⟩)).length φ' av x) ∧
      RelF c.P w' (Mut c.A φ' (setO st.hp r (some ⟨o.elem, o.es ++ ys⟩))) (setO st.hp r (some ⟨o.elem, o.es ++ ys⟩)).length φ' (.own r (n + m)) (.slice (some ⟨g, 0, none⟩) (n + m) L.cap) := by
    intro w' L g cs hos htp hou hsz hblk hLb hLg hLn hLs hLc hLr hg hcsz hold hnew
    have hupd := own_update (L := L) (o' := ⟨o.elem, o.es ++ ys⟩) (w' := w') hc.hok ho hos htp hou hsz hblk (by
        rcases hLb with h | h
        · exact .inl h
        · exact .inr fun b hb => by rw [hLg] at hb; cases hb; exact h) (.inr (by rw [hO.len, hn, hLn]; omega)) (fun htr => by
      refine ⟨by simp only [if_true, hLn, h2n], by simp [hLs, hcs], ?_, by simp [hn, hm]; exact hLr, by simpa using hLc, (fun h => by simp [hLg] at h), fun b' hb' => ?_⟩
      · intro row hrow
        rcases List.mem_append.1 hrow with hrow | hrow
        · exact hO.rows row hrow
        · rw [hcs]; exact hyr row hrow
      · simp only [if_true, hLg] at hb'
        cases hb'
        refine ⟨cs, hg, by simp [hcsz, hcs], fun i j hi' hj' => ?_⟩
        simp only [hcs] at hj' ⊢
        by_cases hin : i < n
        · obtain ⟨b0, csO, hb0, hgO, hvO⟩ := hold i j hin hj'
          obtain ⟨cs2, g1, g2, g3⟩ := hO.some b0 hb0
          rw [hgO] at g1; cases g1
          rw [hvO, cellAt_append_left (by rw [hn]; exact hin)]
          have := g3 i j (by rw [hn]; exact hin) (by rw [hcs]; exact hj')
          rw [hcs] at this
          exact htr _ _ this
        · rw [cellAt_append_right (by rw [hn]; omega), hn]
          have hlt : i - n < m := by simp [hn, hm] at hi'; omega
          have e := hnew (i - n) j hlt hj'
          rw [show n + (i - n) = i by omega] at e
          rw [e]
          exact htr _ _ (hc2 (i - n) j (by rw [hm]; exact hlt) hj'))
    refine ⟨_, hupd.1, hupd.2, fun φ' hφ => ?_⟩
    have e : φ' r = L := by
      have := hφ r (by rw [setO_length]; exact hrl)
      simpa using this
    exact .own r (n + m) _ rfl (by rw [e, hLn]; exact Nat.le_refl _) fun _ => by rw [e, hLg]; rfl
  have hml : n + m ≤ maxLen := by simp only [maxLen]; omega
  cases hbk : (φ r).blk with
  | none =>
    obtain ⟨hes, hcap⟩ := hO.none hbk
    have hn' : n = 0 := by rw [← hn, hes]; rfl
    subst hn'
    rw [hbk, hcap] at hx
    have hr := run_append_nil (P := c.P) w t ty o.elem inf z hu hi hz ⟨b, off, none⟩ m cap news (by rw [hnl, hs]) hn1 hpos (by omega) (by rw [hby]; simp at hb; omega)
    obtain ⟨φ', g1, g2, g3⟩ := fin (w.drew.alloc (.cells (news.toArray ++ Builtin.zeroCells z.cells (grownCap w m 0 o.elem - m)) o.elem)) ⟨some w.heap.size, grownCap w m 0 o.elem, 0 + m, sz⟩ w.heap.size (news.toArray ++ Builtin.zeroCells z.cells (grownCap w m 0 o.elem - m)) rfl rfl rfl (by simp) (fun b' hlt _ => heap_alloc_old w.drew _ b' hlt) (.inr (Nat.le_refl _)) rfl rfl rfl
      (by have := grownCap_le_maxLen w m 0 o.elem (by simpa using hml); simp only [maxLen] at this; show grownCap w m 0 o.elem < 2 ^ 63; omega) (by simpa using grownCap_ge w m 0 o.elem)
      (heap_alloc_new w.drew _) (by
        have hge := grownCap_ge w m 0 o.elem
        simp only [Array.size_append, List.size_toArray, size_zeroCells, hzs, hnl, ← Nat.add_mul]
        congr 1; omega) (fun i j hi' _ => absurd hi' (by omega)) (fun i j hi' hj' => by
        rw [← hn2 i j (by rw [hm]; exact hi') hj']
        have : i * sz + j < news.length := by rw [hnl]; exact ix_lt hi' hj'
        simp [Array.getD_eq_getD_getElem?, List.getD_eq_getElem?_getD, Array.getElem?_append, this])
    refine ⟨_, _, φ', ?_, g1, g2, g3⟩
    simp [execOp, resolve, invoke, builtin, hx, hyv, hr]
  | some g =>
    obtain ⟨cs, h4, h5, h6⟩ := hO.some g hbk
    rw [hcs] at h5
    have hroom := hO.room
    have hcap63 := hO.cap
    rw [hbk] at hx
    simp only [Option.map_some] at hx
    by_cases hfit : n + m ≤ (φ r).cap
    · have hbnd : n * sz + news.length ≤ cs.size := by
        rw [hnl, h5, ← Nat.add_mul]; exact Nat.mul_le_mul_right _ hfit
      have hr := run_append_room (P := c.P) w t ty o.elem inf hu hi g n (φ r).cap cs h4 ⟨b, off, none⟩ m cap news (by rw [hnl, hs]) hn1 hone hfit (by rw [hs]; exact hbnd)
      rw [hs] at hr
      obtain ⟨φ', g1, g2, g3⟩ := fin (w.setRow g (cs.toList.take (n * sz) ++ news ++ cs.toList.drop (n * sz + news.length)).toArray) ⟨some g, (φ r).cap, n + m, sz⟩ g (cs.toList.take (n * sz) ++ news ++ cs.toList.drop (n * sz + news.length)).toArray rfl rfl rfl (by simp) (fun b' _ hne => setRow_other w g b' _ (fun e => hne (by rw [hbk, e]))) (.inl hbk.symm) rfl rfl rfl hcap63 hfit
        (setRow_heap w g cs _ o.elem _ h4) (by simp; omega) (fun i j hi' hj' => ⟨g, cs, hbk, h4, by
          have : i * sz + j < n * sz := ix_lt hi' hj'
          rw [splice_getDA cs news _ _ hbnd, if_pos this]⟩) (fun i j hi' hj' => by
          rw [← hn2 i j (by rw [hm]; exact hi') hj']
          have h7 : i * sz + j < news.length := by rw [hnl]; exact ix_lt hi' hj'
          rw [splice_getDA cs news _ _ hbnd, Nat.add_mul, if_neg (by omega), if_pos (by omega)]
          congr 1; omega)
      refine ⟨_, _, φ', ?_, g1, g2, g3⟩
      simp [execOp, resolve, invoke, builtin, hx, hyv, hr]
    · obtain ⟨olds, holdl, holds, holdv⟩ : ∃ olds : List Value, olds.length = n * sz ∧ (∀ j u, olds[j]? = some u → w.cell? ((⟨g, 0, none⟩ : Addr).add j) = some u) ∧ (∀ k, k < n * sz → olds.getD k undef = cs.getD k undef) := by
        refine ⟨cs.toList.take (n * sz), ?_, fun j u hu' => ?_, fun k hk => ?_⟩
        · have : n * sz ≤ cs.size := by rw [h5]; exact Nat.mul_le_mul_right _ (by omega)
          simp; omega
        · rw [addr_add, Nat.zero_add, cell_of_cells h4]
          rw [List.getElem?_take] at hu'
          split at hu'
          · simpa using hu'
          · cases hu'
        · rw [List.getD_eq_getElem?_getD, List.getElem?_take, if_pos hk]
          simp [Array.getD_eq_getD_getElem?]
      have hr := run_append_grow (P := c.P) w t ty o.elem inf z hu hi hz ⟨g, 0, none⟩ n (φ r).cap olds (by rw [holdl, hs]) holds ⟨b, off, none⟩ m cap news (by rw [hnl, hs]) hn1 (by omega) (by omega) (growslice_fits (by omega) (by rw [hby]; exact hb))
      obtain ⟨φ', g1, g2, g3⟩ := fin (w.drew.alloc (.cells (olds.toArray ++ news.toArray ++ Builtin.zeroCells z.cells (grownCap w (n + m) (φ r).cap o.elem - (n + m))) o.elem)) ⟨some w.heap.size, grownCap w (n + m) (φ r).cap o.elem, n + m, sz⟩ w.heap.size (olds.toArray ++ news.toArray ++ Builtin.zeroCells z.cells (grownCap w (n + m) (φ r).cap o.elem - (n + m))) rfl rfl rfl (by simp) (fun b' hlt _ => heap_alloc_old w.drew _ b' hlt) (.inr (Nat.le_refl _)) rfl rfl rfl
        (by have := grownCap_le_maxLen w (n + m) (φ r).cap o.elem hml; simp only [maxLen] at this; show grownCap w (n + m) (φ r).cap o.elem < 2 ^ 63; omega) (grownCap_ge w (n + m) (φ r).cap o.elem)
        (heap_alloc_new w.drew _) (by
          have hge := grownCap_ge w (n + m) (φ r).cap o.elem
          rw [Array.size_append, Array.size_append, List.size_toArray, List.size_toArray, size_zeroCells, hzs, hnl, holdl, ← Nat.add_mul, ← Nat.add_mul, Nat.add_sub_cancel' hge]) (fun i j hi' hj' => ⟨g, cs, hbk, h4, by
          have h8 : i * sz + j < n * sz := ix_lt hi' hj'
          rw [← holdv _ h8]
          rw [app_getD, holdl, if_pos h8]⟩) (fun i j hi' hj' => by
          rw [← hn2 i j (by rw [hm]; exact hi') hj']
          have h7 : i * sz + j < news.length := by rw [hnl]; exact ix_lt hi' hj'
          have h8 : ¬ ((n + i) * sz + j < n * sz) := by rw [Nat.add_mul]; omega
          have h9 : (n + i) * sz + j - n * sz = i * sz + j := by rw [Nat.add_mul]; omega
          rw [app_getD, holdl, if_neg h8, if_pos (by rw [Nat.add_mul]; omega), h9])
      refine ⟨_, _, φ', ?_, g1, g2, g3⟩
      simp [execOp, resolve, invoke, builtin, hx, hyv, hr]
end ops
end Go.Vx
