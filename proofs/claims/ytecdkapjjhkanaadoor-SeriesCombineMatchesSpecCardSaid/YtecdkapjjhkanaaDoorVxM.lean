/- A text of the proof: a verified executor of the program form, or the contracts of the functions that the law reaches. -/
import Derived.Test.YtecdkapjjhkanaaDoorVxL
import Derived.Laws.Shifts
set_option linter.all false
namespace Go.Vx
open Go Go.RowKit

theorem v_arith' {c : Ctx} {ops : Array Oper} {st : St} {dst : Option Tmp} {ty : TypeId} {pos : String} {after : Array Edge} {x y : Operand} {k yk : IntKind} {m n : Int} {t u : TypeId} {z : Int} (h : Opv c st x (.int k m)) (h' : Opv c st y (.int yk n))
    (hz : (binOp .shr t (.int k m) (.int yk n) : Sem Value) = .pure (.int k z)) : SVal c ops st ⟨dst, .binOp .shr t x y u, ty, pos, after, none⟩ (.int k z) :=
  .pure rfl fun φ a w hc => by
    refine ⟨.int k z, ?_, relF_data (.int _ _)⟩
    have e := h.int hc
    have e' := h'.int hc
    simp only [execOp, e, e', hz]
    rfl

theorem retq {c : Ctx} {st : St} {rs : Array ResultVar} {r r' : AV} (e : r' = r) (h : Ret c st rs r') : retK c rs r .ret st := by subst e; exact h

theorem pwB {c : Ctx} {st : St} {l : List AV} (h : l.all datB = true) : Pw (View c st) l l := .refl fun x hx => Dat.view (.b (List.all_eq_true.1 h x hx))

theorem row_map {α : Type} {f : α → List AV} {xs : List α} {i : Nat} {x : α} (h : xs[i]? = some x) : (xs.map f)[i]? = some (f x) := by simp [h]
theorem len_map {α : Type} (f : α → List AV) (xs : List α) : ((xs.map f).length : Int) = (xs.length : Int) := by simp

def lowB (n : Nat) : AV → Bool
  | .int _ _ | .bool _ | .str _ | .lit _ | .nils | .sl _ _ | .rp _ _ | .any => true
  | .own r _ => Nat.blt r n
  | .ptr r _ _ _ => Nat.blt r n
  | .osl r _ _ _ => Nat.blt r n
  | .agg l => l.all datB
  | .tuple l => l.all datB
  | .fn _ l => l.all datB
  | _ => false

theorem low_dat {n : Nat} {v : AV} (h : datB v = true) : Low n v := by
  cases v <;> first | (exact .int _ _) | (exact .bool _) | (exact .str _) | (exact .lit _) | (exact .nils) | (exact .sl _ _) | (exact .rp _ _) | cases h

theorem low_of {n : Nat} {v : AV} (h : lowB n v = true) : Low n v := by
  cases v with
  | int k z => exact .int _ _
  | bool b => exact .bool _
  | str s => exact .str _
  | lit v => exact .lit _
  | nils => exact .nils
  | sl e l => exact .sl _ _
  | rp c o => exact .rp _ _
  | own r m => exact .own _ _ (by simpa [lowB] using h)
  | ptr r m i j => exact .ptr _ _ _ _ (by simpa [lowB] using h)
  | osl r m i j => exact .osl _ _ _ _ (by simpa [lowB] using h)
  | agg l => exact .agg _ fun x hx => low_dat (List.all_eq_true.1 h x hx)
  | tuple l => exact .tuple _ fun x hx => low_dat (List.all_eq_true.1 h x hx)
  | fn f l => exact .fn _ _ fun x hx => low_dat (List.all_eq_true.1 h x hx)
  | when b v => cases h
  | any => exact .any

def lowTmB (n : Nat) : List (Nat × AV) → Bool
  | [] => true
  | (_, v) :: tl => lowB n v && lowTmB n tl
theorem lowTm_of {n : Nat} {tm : List (Nat × AV)} (h : lowTmB n tm = true) : LowTm n tm := by
  induction tm with
  | nil => trivial
  | cons x tl ih =>
    obtain ⟨s, v⟩ := x
    simp only [lowTmB, Bool.and_eq_true] at h
    exact ⟨low_of h.1, ih h.2⟩
def lowHpB (n : Nat) : List (Option Own) → Bool
  | [] => true
  | none :: tl => lowHpB n tl
  | some o :: tl => (o.es.all fun row => row.all (lowB n)) && lowHpB n tl
theorem lowHp_of {n : Nat} {hp : List (Option Own)} (h : lowHpB n hp = true) : LowHp n hp := by
  induction hp with
  | nil => trivial
  | cons x tl ih =>
    cases x with
    | none => exact ih h
    | some o =>
      simp only [lowHpB, Bool.and_eq_true] at h
      exact ⟨fun row hr x hx => low_of (List.all_eq_true.1 (List.all_eq_true.1 h.1 row hr) x hx), ih h.2⟩

theorem Ent.cutB {c : Ctx} {st : St} {tm' : List (Nat × AV)} {hp' tl : List (Option Own)} (h : Keep st.tm tm') (e : st.hp = hp' ++ tl) (h1 : lowTmB hp'.length tm' = true) (h2 : lowHpB hp'.length hp' = true) (hn : Nat.ble c.n0 hp'.length = true := by rfl) : Ent c st ⟨tm', hp'⟩ :=
  Ent.cut h e (lowTm_of h1) (lowHp_of h2) hn

theorem v_shr {c : Ctx} {ops : Array Oper} {st : St} {dst : Option Tmp} {ty : TypeId} {pos : String} {after : Array Edge} {x y : Operand} {k yk : IntKind} {m n z : Int} {t u : TypeId}
    (h : Opv c st x (.int k m)) (h' : Opv c st y (.int yk n)) (h0 : 0 ≤ n) (hz : m / 2 ^ min n.toNat k.bits = z) : SVal c ops st ⟨dst, .binOp .shr t x y u, ty, pos, after, none⟩ (.int k z) :=
  v_arith' h h' (by rw [show (binOp .shr t (.int k m) (.int yk n) : Sem Value) = Op.shift .shr k m yk n from rfl, shift_shr_any k yk m n h0, hz]; rfl)
theorem wu64 {z : Int} (h1 : 0 ≤ z) (h2 : z < 18446744073709551616) : IntKind.u64.wrap z = z := by
  simp [IntKind.wrap, IntKind.bits, IntKind.signed]; omega
end Go.Vx
