/- A text of the proof: a verified executor of the program form, or the contracts of the functions that the law reaches. -/
import Derived.Test.YtecdkapjjhkanaaDoorVxB
import Derived.Scope
import Derived.KernelRfl
import Derived.Laws.Small
import Derived.Laws.Slices
import Derived.Laws.Build
import Derived.Laws.Cells
import Derived.Laws.Entries
import Derived.Deep.MidRow
set_option linter.all false
namespace Go.Vx
open Go Go.RowKit

/-! ## Operands -/

def constAV : Value → AV
  | .int k n => .int k n
  | .bool b => .bool b
  | .string s => .str s.data.toList
  | .slice none 0 0 => .nils
  | v => .lit v

theorem constAV_rel (P : Program) (w : World) (M : Nat → Prop) (v : Value) : RelD P w M (constAV v) v := by
  unfold constAV
  split
  · exact .int _ _
  · exact .bool _
  · exact .str _
  · exact .nils
  · exact .lit _

def opv (tm : List (Nat × AV)) : Operand → Option AV
  | .tmp t => look tm t
  | .const v => some (constAV v)
  | .global g => some (.lit (.pointer (some ⟨g, 0, none⟩)))
  | .func f => some (.fn f [])

/-- In this state operand x is v. -/
def Opv (c : Ctx) (st : St) (x : Operand) (v : AV) : Prop := ∀ φ a w, Conc c φ st a w → RelF c.P w (Mut c.A φ st.hp) st.hp.length φ v (a.eval x)

theorem ov {c : Ctx} {st : St} {x : Operand} {v : AV} (h : opv st.tm x = some v) : Opv c st x v := by
  intro φ a w hc
  cases x with
  | tmp t => exact hc.tm t v h
  | const u => cases h; exact fun φ' _ => .data (constAV_rel _ _ _ _)
  | global g => cases h; exact fun φ' _ => .data (.lit _)
  | func f => cases h; exact fun φ' _ => .data (.fn f [] #[] rfl (fun i hi => by cases hi))

theorem ow {c : Ctx} {st : St} {x : Operand} {v : AV} {g : Bool} (h : opv st.tm x = some (.when g v)) (hg : g = true) : Opv c st x v := by
  intro φ a w hc φ' hφ
  have := ov h φ a w hc φ' hφ
  cases this with
  | data h => cases h
  | when _ _ _ h _ => exact h hg

theorem Opv.int {c : Ctx} {st : St} {x : Operand} {k : IntKind} {n : Int} (h : Opv c st x (.int k n)) {φ : Phi} {a : Act} {w : World} (hc : Conc c φ st a w) : a.eval x = .int k n := relF_int (h φ a w hc)
theorem Opv.bool {c : Ctx} {st : St} {x : Operand} {b : Bool} (h : Opv c st x (.bool b)) {φ : Phi} {a : Act} {w : World} (hc : Conc c φ st a w) : a.eval x = .bool b := relF_bool (h φ a w hc)
theorem relF_str {P : Program} {w : World} {M : Nat → Prop} {n : Nat} {φ : Phi} {b : List UInt8} {v : Value} (h : RelF P w M n φ (.str b) v) : v = .string ⟨b.toArray⟩ := by
  have := h φ (fun _ _ => rfl)
  cases this with | data h => cases h; rfl
theorem Opv.str {c : Ctx} {st : St} {x : Operand} {b : List UInt8} (h : Opv c st x (.str b)) {φ : Phi} {a : Act} {w : World} (hc : Conc c φ st a w) : a.eval x = .string ⟨b.toArray⟩ := relF_str (h φ a w hc)

/-! ## Quiet operations -/

theorem wanted_none {o : Oper} {y : Nat → Option Bool} (h : o.guard = none) : Region.wanted o y = true := by unfold Region.wanted; rw [h]

theorem SVal.run {c : Ctx} {ops : Array Oper} {st : St} {o : Oper} {v : AV} (hg : o.guard = none)
    (h : ∀ φ a w, Conc c φ st a w → ∃ u w', (execOp a.eval o).run c.P w = .ok (.value u) w' ∧ Below w.heap.size w w' ∧ RelF c.P w' (Mut c.A φ st.hp) st.hp.length φ v u) : SVal c ops st o v := by
  intro φ a w hc
  refine ⟨fun _ => ?_, fun hw => by rw [wanted_none hg] at hw; cases hw⟩
  obtain ⟨u, w', h1, h2, h3⟩ := h φ a w hc
  unfold Oper.wp
  rw [h1]
  exact ⟨u, rfl, h2, h3⟩

/-- .. that touches no memory. -/
theorem SVal.pure {c : Ctx} {ops : Array Oper} {st : St} {o : Oper} {v : AV} (hg : o.guard = none)
    (h : ∀ φ a w, Conc c φ st a w → ∃ u, (execOp a.eval o).run c.P w = .ok (.value u) w ∧ RelF c.P w (Mut c.A φ st.hp) st.hp.length φ v u) : SVal c ops st o v :=
  .run hg fun φ a w hc => let ⟨u, h1, h2⟩ := h φ a w hc; ⟨u, w, h1, Below.refl _ _, h2⟩

theorem relF_data {P : Program} {w : World} {M : Nat → Prop} {n : Nat} {φ : Phi} {av : AV} {v : Value} (h : RelD P w M av v) : RelF P w M n φ av v := fun _ _ => .data h

theorem wp_guard {P : Program} {dst : Option Tmp} {op : Op} {ty : TypeId} {pos : String} {after : Array Edge} {g : Option (Nat × Bool)} {a : Act} {w : World} {K : Act → World → Prop} {Q : Exit → Act → World → Prop} :
    Oper.wp P ⟨dst, op, ty, pos, after, g⟩ a w K Q = Oper.wp P ⟨dst, op, ty, pos, after, none⟩ a w K Q := by
  unfold Oper.wp
  have : execOp a.eval ⟨dst, op, ty, pos, after, g⟩ = execOp a.eval ⟨dst, op, ty, pos, after, none⟩ := by cases op <;> rfl
  rw [this]
  generalize (execOp a.eval ⟨dst, op, ty, pos, after, none⟩).run P w = r
  cases r with
  | ok n w' => cases n <;> rfl
  | halt h w' => cases h <;> rfl

theorem rel_bool {P : Program} {w : World} {M : Nat → Prop} {φ : Phi} {b : Bool} {v : Value} (h : Rel P w M φ (.bool b) v) : v = .bool b := by
  cases h with | data h => cases h; rfl

/-- The outcome of a guard. -/
theorem SVal.guarded {c : Ctx} {ops : Array Oper} {st : St} {dst : Option Tmp} {op : Op} {ty : TypeId} {pos : String} {after : Array Edge} {j d : Nat} {want : Bool} {v : AV} {b : Bool} (g : Bool)
    (hj : (ops[j]?).bind (·.dst) = some d) (hd : Nat.blt d c.nt = true) (hl : look st.tm d = some (.bool b)) (hgg : g = (b == want))
    (h : g = true → SVal c ops st ⟨dst, op, ty, pos, after, none⟩ v) : SVal c ops st ⟨dst, op, ty, pos, after, some (j, want)⟩ (.when g v) := by
  intro φ a w hc
  have hv : a.tmps.getD d undef = .bool b := relF_bool (hc.tm d _ hl)
  have hy : yielded ops a.tmps j = some b := by
    unfold yielded
    rw [hj]
    have hlt : d < a.tmps.size := by rw [hc.size]; simpa using hd
    have : a.tmps[d]? = some (.bool b) := by
      rw [Array.getElem?_eq_getElem hlt]
      simpa [hlt] using hv
    simp [this]
  have hwa : Region.wanted ⟨dst, op, ty, pos, after, some (j, want)⟩ (yielded ops a.tmps) = g := by
    unfold Region.wanted
    simp only [hy, hgg]
    cases b <;> cases want <;> rfl
  rw [hwa]
  refine ⟨fun hg => ?_, fun hg φ' _ => .when g v undef (fun h => by rw [hg] at h; cases h) (fun _ => rfl)⟩
  obtain ⟨h1, _⟩ := h hg φ a w hc
  rw [wp_guard]
  refine wp_imp ?_ (fun _ _ _ h => h) (h1 (wanted_none rfl))
  rintro a' w' ⟨u, rfl, hb, hr⟩
  exact ⟨u, rfl, hb, fun φ' hφ => .when g v u (fun _ => hr φ' hφ) (fun h => by rw [hg] at h; cases h)⟩

/-- A guard inside a guard. -/
theorem SVal.guarded2 {c : Ctx} {ops : Array Oper} {st : St} {dst : Option Tmp} {op : Op} {ty : TypeId} {pos : String} {after : Array Edge} {j d : Nat} {want : Bool} {v : AV} {b h0 : Bool} (g : Bool)
    (hj : (ops[j]?).bind (·.dst) = some d) (hd : Nat.blt d c.nt = true) (hl : look st.tm d = some (.when h0 (.bool b))) (hgg : g = (h0 && (b == want)))
    (h : g = true → SVal c ops st ⟨dst, op, ty, pos, after, none⟩ v) : SVal c ops st ⟨dst, op, ty, pos, after, some (j, want)⟩ (.when g v) := by
  intro φ a w hc
  have hlt : d < a.tmps.size := by rw [hc.size]; simpa using hd
  have hwa : Region.wanted ⟨dst, op, ty, pos, after, some (j, want)⟩ (yielded ops a.tmps) = g := by
    have hrel := hc.tm d _ hl φ (fun _ _ => rfl)
    unfold Region.wanted yielded
    simp only [hj, Option.bind_some]
    have he : a.tmps[d]? = some (a.tmps.getD d undef) := by rw [Array.getElem?_eq_getElem hlt]; simp [hlt]
    rw [he]
    cases hrel with
    | data h => cases h
    | when _ _ _ h1 h2 =>
      cases h0 with
      | true =>
        have := h1 rfl
        have hv : a.tmps.getD d undef = .bool b := rel_bool this
        rw [hv, hgg]
        cases b <;> cases want <;> rfl
      | false =>
        rw [h2 rfl, hgg]
        cases want <;> rfl
  rw [hwa]
  refine ⟨fun hg => ?_, fun hg φ' _ => .when g v undef (fun h => by rw [hg] at h; cases h) (fun _ => rfl)⟩
  obtain ⟨h1, _⟩ := h hg φ a w hc
  rw [wp_guard]
  refine wp_imp ?_ (fun _ _ _ h => h) (h1 (wanted_none rfl))
  rintro a' w' ⟨u, rfl, hb, hr⟩
  exact ⟨u, rfl, hb, fun φ' hφ => .when g v u (fun _ => hr φ' hφ) (fun h => by rw [hg] at h; cases h)⟩

section ops
variable {c : Ctx} {ops : Array Oper} {st : St} {dst : Option Tmp} {ty : TypeId} {pos : String} {after : Array Edge}

theorem v_move {x : Operand} {v : AV} (h : Opv c st x v) : SVal c ops st ⟨dst, .move x, ty, pos, after, none⟩ v :=
  .pure rfl fun φ a w hc => ⟨a.eval x, rfl, h φ a w hc⟩
theorem v_assign {x : Operand} {v : AV} (h : Opv c st x v) : SVal c ops st ⟨dst, .assign x, ty, pos, after, none⟩ v :=
  .pure rfl fun φ a w hc => ⟨a.eval x, rfl, h φ a w hc⟩

theorem v_pick {x y z : Operand} {b : Bool} {v : AV} (h : Opv c st x (.bool b)) (h1 : b = true → Opv c st y v) (h2 : b = false → Opv c st z v) : SVal c ops st ⟨dst, .pick x y z, ty, pos, after, none⟩ v :=
  .pure rfl fun φ a w hc => by
    have e := h.bool hc
    cases b with
    | true => exact ⟨a.eval y, by simp [execOp, e, asBool, pure, bind, Sem.bind], h1 rfl φ a w hc⟩
    | false => exact ⟨a.eval z, by simp [execOp, e, asBool, pure, bind, Sem.bind], h2 rfl φ a w hc⟩

theorem v_or {x z : Operand} {p q : Bool} (h : Opv c st x (.bool p)) (h2 : p = false → Opv c st z (.bool q)) : SVal c ops st ⟨dst, .pick x (.const (.bool true)) z, ty, pos, after, none⟩ (.bool (p || q)) :=
  v_pick h (fun hp => by rw [hp]; exact ov rfl) (fun hp => by rw [hp]; exact h2 hp)
theorem v_and {x z : Operand} {p q : Bool} (h : Opv c st x (.bool p)) (h2 : p = true → Opv c st z (.bool q)) : SVal c ops st ⟨dst, .pick x z (.const (.bool false)), ty, pos, after, none⟩ (.bool (p && q)) :=
  v_pick h (fun hp => by rw [hp]; exact h2 hp) (fun hp => by rw [hp]; exact ov rfl)

section arith
variable {x y : Operand} {k : IntKind} {m n : Int} {t u : TypeId}

theorem v_arith {op : BinOp} {z : Int} (h : Opv c st x (.int k m)) (h' : Opv c st y (.int k n))
    (hz : (binOp op t (.int k m) (.int k n) : Sem Value) = .pure (.int k z)) (hne : op ≠ .eql) (hnn : op ≠ .neq) : SVal c ops st ⟨dst, .binOp op t x y u, ty, pos, after, none⟩ (.int k z) :=
  .pure rfl fun φ a w hc => by
    refine ⟨.int k z, ?_, relF_data (.int _ _)⟩
    have e := h.int hc
    have e' := h'.int hc
    simp only [execOp, e, e', hz]
    cases op <;> first | rfl | exact absurd rfl hne | exact absurd rfl hnn

theorem v_add {z : Int} (h : Opv c st x (.int k m)) (h' : Opv c st y (.int k n)) (hz : k.wrap (m + n) = z) : SVal c ops st ⟨dst, .binOp .add t x y u, ty, pos, after, none⟩ (.int k z) :=
  v_arith h h' (by simp [binOp, Op.intArith, hz, pure]) (by simp) (by simp)
theorem v_sub {z : Int} (h : Opv c st x (.int k m)) (h' : Opv c st y (.int k n)) (hz : k.wrap (m - n) = z) : SVal c ops st ⟨dst, .binOp .sub t x y u, ty, pos, after, none⟩ (.int k z) :=
  v_arith h h' (by simp [binOp, Op.intArith, hz, pure]) (by simp) (by simp)
theorem v_mul {z : Int} (h : Opv c st x (.int k m)) (h' : Opv c st y (.int k n)) (hz : k.wrap (m * n) = z) : SVal c ops st ⟨dst, .binOp .mul t x y u, ty, pos, after, none⟩ (.int k z) :=
  v_arith h h' (by simp [binOp, Op.intArith, hz, pure]) (by simp) (by simp)
theorem v_quo {z : Int} (h : Opv c st x (.int k m)) (h' : Opv c st y (.int k n)) (h0 : n ≠ 0) (hz : k.wrap (m.tdiv n) = z) : SVal c ops st ⟨dst, .binOp .quo t x y u, ty, pos, after, none⟩ (.int k z) :=
  v_arith h h' (by simp [binOp, Op.intDiv, h0, hz, pure]) (by simp) (by simp)
theorem v_rem {z : Int} (h : Opv c st x (.int k m)) (h' : Opv c st y (.int k n)) (h0 : n ≠ 0) (hz : m.tmod n = z) : SVal c ops st ⟨dst, .binOp .rem t x y u, ty, pos, after, none⟩ (.int k z) :=
  v_arith h h' (by simp [binOp, Op.intDiv, h0, hz, pure]) (by simp) (by simp)

theorem v_cmp {op : BinOp} {b : Bool} (h : Opv c st x (.int k m)) (h' : Opv c st y (.int k n)) (hz : (binOp op t (.int k m) (.int k n) : Sem Value) = .pure (.bool b)) : SVal c ops st ⟨dst, .binOp op t x y u, ty, pos, after, none⟩ (.bool b) :=
  .pure rfl fun φ a w hc => by
    refine ⟨.bool b, ?_, relF_data (.bool _)⟩
    have e := h.int hc
    have e' := h'.int hc
    simp only [execOp, e, e', hz]
    cases op <;> rfl
theorem v_eql (h : Opv c st x (.int k m)) (h' : Opv c st y (.int k n)) : SVal c ops st ⟨dst, .binOp .eql t x y u, ty, pos, after, none⟩ (.bool (decide (m = n))) := v_cmp h h' (by simp [binOp, Op.intCmp, pure]; rfl)
theorem v_neq (h : Opv c st x (.int k m)) (h' : Opv c st y (.int k n)) : SVal c ops st ⟨dst, .binOp .neq t x y u, ty, pos, after, none⟩ (.bool (!decide (m = n))) := v_cmp h h' (by simp [binOp, Op.intCmp, pure]; rfl)
theorem v_lss (h : Opv c st x (.int k m)) (h' : Opv c st y (.int k n)) : SVal c ops st ⟨dst, .binOp .lss t x y u, ty, pos, after, none⟩ (.bool (decide (m < n))) := v_cmp h h' (by simp [binOp, Op.intCmp, pure])
theorem v_leq (h : Opv c st x (.int k m)) (h' : Opv c st y (.int k n)) : SVal c ops st ⟨dst, .binOp .leq t x y u, ty, pos, after, none⟩ (.bool (decide (m ≤ n))) := v_cmp h h' (by simp [binOp, Op.intCmp, pure])
theorem v_gtr (h : Opv c st x (.int k m)) (h' : Opv c st y (.int k n)) : SVal c ops st ⟨dst, .binOp .gtr t x y u, ty, pos, after, none⟩ (.bool (decide (n < m))) := v_cmp h h' (by simp [binOp, Op.intCmp, pure])
theorem v_geq (h : Opv c st x (.int k m)) (h' : Opv c st y (.int k n)) : SVal c ops st ⟨dst, .binOp .geq t x y u, ty, pos, after, none⟩ (.bool (decide (n ≤ m))) := v_cmp h h' (by simp [binOp, Op.intCmp, pure])

theorem v_neg {z : Int} (h : Opv c st x (.int k m)) (hz : k.wrap (-m) = z) : SVal c ops st ⟨dst, .unOp .neg t x, ty, pos, after, none⟩ (.int k z) :=
  .pure rfl fun φ a w hc => by
    refine ⟨.int k z, ?_, relF_data (.int _ _)⟩
    simp [execOp, h.int hc, Op.unary, Op.intArith, hz, pure, bind, Sem.bind]
theorem v_not {b : Bool} (h : Opv c st x (.bool b)) : SVal c ops st ⟨dst, .unOp .not t x, ty, pos, after, none⟩ (.bool (!b)) :=
  .pure rfl fun φ a w hc => by
    refine ⟨.bool (!b), ?_, relF_data (.bool _)⟩
    simp [execOp, h.bool hc, Op.unary, pure, bind, Sem.bind]
end arith

end ops
end Go.Vx
