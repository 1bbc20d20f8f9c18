/- A text of the proof: a verified executor of the program form, or the contracts of the functions that the law reaches. -/
import Derived.Test.YtecdkapjjhkanaaDoorVxJ
import Derived.IntWalk
set_option linter.all false
namespace Go.Vx
open Go Go.RowKit

section ops
variable {c : Ctx} {ops : Array Oper} {st : St} {dst : Option Tmp} {ty : TypeId} {pos : String} {after : Array Edge}

theorem run_structEq {P : Program} {w : World} {M : Nat → Prop} {t : Nat} {ks : List Kd} {l m : List AV} {vx vy : Value} (ht : flatSt P t ks = true) (hl : fitKs ks l = true) (hm : fitKs ks m = true)
    (hx : RelD P w M (.agg l) vx) (hy : RelD P w M (.agg m) vy) (op : BinOp) (x y : Operand) (hop : op = .eql ∨ op = .neq) :
    (do eqGuard op t x y vx vy; binOp op t vx vy : Sem Value).run P w = .ok (.bool (if op matches .eql then eqAL l m else !eqAL l m)) w := by
  unfold flatSt at ht
  simp only [Bool.and_eq_true, Bool.not_eq_true'] at ht
  obtain ⟨⟨h1, h2⟩, h3⟩ := ht
  split at h1
  · rename_i fs hu
    cases hx with
    | agg _ xs a1 a2 =>
      cases hy with
      | agg _ ys b1 b2 =>
        have hf := run_eqFields (P := P) (w := w) (M := M) (xs := xs) (ys := ys) ks fs.toList 0 l m h1 hl hm (fun i hi => ⟨by omega, by rw [Nat.zero_add]; exact a2 i hi⟩) (fun i hi => ⟨by omega, by rw [Nat.zero_add]; exact b2 i hi⟩) 9998
        have hfs : P.fieldsOf t = fs := by simp [Program.fieldsOf, hu]
        have he : (Op.equal t (.agg xs) (.agg ys)).run P w = .ok (eqAL l m) w := by
          unfold Op.equal Op.maxDepth
          rw [run_equalIn_struct w 9999 t xs ys (by rw [hfs]; exact hu) h2, hfs]
          exact hf
        have hg : (eqGuard op t x y (.agg xs) (.agg ys)).run P w = .ok () w := by
          rcases hop with rfl | rfl <;> simp [eqGuard, h3]
        rw [Sem.run_bind, hg]
        simp only [Result.andThen_ok]
        rcases hop with rfl | rfl
        · simp [binOp, he]
        · simp [binOp, he]
  · cases h1

theorem v_eqlS {x y : Operand} {t u : Nat} {ks : List Kd} {l m : List AV} (ht : flatSt c.P t ks = true) (hx : Opv c st x (.agg l)) (hy : Opv c st y (.agg m)) (dx : Dat c st (.agg l) (.agg l)) (dy : Dat c st (.agg m) (.agg m))
    (hl : fitKs ks l = true) (hm : fitKs ks m = true) : SVal c ops st ⟨dst, .binOp .eql t x y u, ty, pos, after, none⟩ (.bool (eqAL l m)) :=
  .pure rfl fun φ a w hc => by
    have h := run_structEq ht hl hm (dx φ a w hc _ (hx φ a w hc)) (dy φ a w hc _ (hy φ a w hc)) .eql x y (.inl rfl)
    refine ⟨.bool (eqAL l m), ?_, relF_data (.bool _)⟩
    show ((do pure (Next.value (← (do eqGuard .eql t x y (a.eval x) (a.eval y); binOp .eql t (a.eval x) (a.eval y) : Sem Value))) : Sem Next)).run c.P w = _
    rw [Sem.run_bind, h]
    rfl

theorem v_neqS {x y : Operand} {t u : Nat} {ks : List Kd} {l m : List AV} (ht : flatSt c.P t ks = true) (hx : Opv c st x (.agg l)) (hy : Opv c st y (.agg m)) (dx : Dat c st (.agg l) (.agg l)) (dy : Dat c st (.agg m) (.agg m))
    (hl : fitKs ks l = true) (hm : fitKs ks m = true) : SVal c ops st ⟨dst, .binOp .neq t x y u, ty, pos, after, none⟩ (.bool (!eqAL l m)) :=
  .pure rfl fun φ a w hc => by
    have h := run_structEq ht hl hm (dx φ a w hc _ (hx φ a w hc)) (dy φ a w hc _ (hy φ a w hc)) .neq x y (.inr rfl)
    refine ⟨.bool (!eqAL l m), ?_, relF_data (.bool _)⟩
    show ((do pure (Next.value (← (do eqGuard .neq t x y (a.eval x) (a.eval y); binOp .neq t (a.eval x) (a.eval y) : Sem Value))) : Sem Next)).run c.P w = _
    rw [Sem.run_bind, h]
    rfl

theorem tBool_eq {x y : Operand} {t u : Nat} {p q : Bool} (op : BinOp) (hop : op = .eql ∨ op = .neq) (hx : Opv c st x (.bool p)) (hy : Opv c st y (.bool q)) (ht : (match c.P.underlying t with | some .bool => true | _ => false) = true) :
    SVal c ops st ⟨dst, .binOp op t x y u, ty, pos, after, none⟩ (.bool (if op matches .eql then p == q else !(p == q))) :=
  .pure rfl fun φ a w hc => by
    have hu : c.P.underlying t = some .bool := by split at ht; assumption; cases ht
    refine ⟨_, ?_, relF_data (.bool _)⟩
    have he : (Op.equal t (.bool p) (.bool q)).run c.P w = .ok (p == q) w := by
      unfold Op.equal Op.maxDepth
      exact run_equalIn_bool' w 9999 t p q hu
    rcases hop with rfl | rfl
    · simp [execOp, hx.bool hc, hy.bool hc, eqGuard, binOp, he]
    · simp [execOp, hx.bool hc, hy.bool hc, eqGuard, binOp, he]

/-- append(nil, ys...), read only from then on. -/
theorem v_append0 {x y : Operand} {t e sz by_ m : Nat} {ys : List (List AV)} (h : Opv c st x .nils) (hy : SlV c st y sz ys) (ht : tSl c.P t e sz by_ = true)
    (hm : ys.length = m) (hd : ∀ row ∈ ys, ∀ u ∈ row, Dat c st u u) (hb : m * by_ ≤ 140737488355328) :
    SVal c ops st ⟨dst, .call { callee := .builtin .append, args := #[x, y], argTypes := #[t, t] }, ty, pos, after, none⟩ (.sl e ys) := by
  refine .run rfl fun φ a w hc => ?_
  obtain ⟨hu, inf, z, hi, hs, hby, hn0, hz, hzs, hcs⟩ := tSl.spec ht
  have hxv : a.eval x = .slice none 0 0 := by
    have hv := h φ a w hc φ (fun _ _ => rfl)
    generalize a.eval x = v at hv
    cases hv with | data h => cases h; rfl
  obtain ⟨base, cap, hyv, hlt63, hyr, hyc⟩ := hy φ a w hc
  by_cases hm0 : m = 0
  · subst hm0
    have hyn : ys = [] := List.eq_nil_of_length_eq_zero hm
    subst hyn
    refine ⟨.slice none 0 0, w, ?_, Below.refl _ _, relF_data (.sl0 _ _ _)⟩
    have hf : (Builtin.firstCells sz 0 (.slice base 0 cap)).run c.P w = .ok #[] w := by
      cases base <;> simp [Builtin.firstCells, loadCells, loadCellsFrom]
    simp [execOp, resolve, invoke, builtin, hxv, hyv, Builtin.append_, run_underlying hu, sizeOf, typeInfo, hi, hs, Builtin.lenOf, hf]
  · have hyne : ys ≠ [] := fun e => by rw [e] at hm; simp at hm; omega
    obtain ⟨b, off, us, rfl, hc1, hc2⟩ := hyc hyne
    obtain ⟨news, hnl, hn1, hn2⟩ := news_of hc hc1 hn0
    rw [hm] at hnl hyv
    have hr := run_append_nil (P := c.P) w t ty e inf z hu hi hz ⟨b, off, none⟩ m cap news (by rw [hnl, hs]) hn1 (by omega) (by omega) (by rw [hby]; omega)
    have hBl : Below w.heap.size w (w.drew.alloc (.cells (news.toArray ++ Builtin.zeroCells z.cells (grownCap w m 0 e - m)) e)) := ((Below.refl _ _).drew).alloc (Nat.le_refl _) _
    refine ⟨_, _, by simp [execOp, resolve, invoke, builtin, hxv, hyv, hr]; rfl, hBl, relF_data ?_⟩
    have hnM : ¬ Mut c.A φ st.hp w.heap.size := fun hmm => by have := mut_lt hc _ hmm; omega
    have hnew : (w.drew.alloc (.cells (news.toArray ++ Builtin.zeroCells z.cells (grownCap w m 0 e - m)) e)).heap[w.heap.size]? = some (.cells (news.toArray ++ Builtin.zeroCells z.cells (grownCap w m 0 e - m)) e (0, 0)) := heap_alloc_new w.drew _
    have hge := grownCap_ge w m 0 e
    have := RelD.sl (P := c.P) (w := w.drew.alloc (.cells (news.toArray ++ Builtin.zeroCells z.cells (grownCap w m 0 e - m)) e)) (M := Mut c.A φ st.hp) e ys w.heap.size 0 (grownCap w m 0 e) us (by simp) hnM (by omega) (by omega)
      (by rw [hcs]; exact hyr) (fun i j hi' hj' => by
        rw [hcs] at hj' ⊢
        rw [cell_of_cells hnew, Nat.zero_add, ← hn2 i j hi' hj']
        have h7 : i * sz + j < news.length := by rw [hnl, ← hm]; exact ix_lt hi' hj'
        simp [Array.getElem?_append, h7, List.getD_eq_getElem?_getD]) (fun i j hi' hj' => by
        rw [hcs] at hj'
        have hrow : ys[i] ∈ ys := List.getElem_mem hi'
        have hl := hyr _ hrow
        have e1 : cellAt ys i j = ys[i][j]'(by omega) := by simp [cellAt, List.getD_eq_getElem?_getD, hi', hl, hj']
        have h8 := hc2 i j hi' hj'
        rw [e1] at h8 ⊢
        exact (hd _ hrow _ (List.getElem_mem _) φ a w hc _ h8).mono hBl.size (fun b hb _ => hBl.block b hb) (fun _ _ h => h))
    rw [hm] at this
    exact this

end ops

/-! ## Numbers -/
theorem w64 {z : Int} (h1 : -9223372036854775808 ≤ z) (h2 : z ≤ 9223372036854775807) : IntKind.i64.wrap z = z := IntWalk.i64_in z ⟨h1, h2⟩
end Go.Vx
