/- A text of the proof: a verified executor of the program form, or the contracts of the functions that the law reaches. -/
import Derived.Test.YtafmdjdjabifjaaGreatDoorVM
set_option linter.all false
namespace Go.Vx
open Go Go.RowKit
/-! ## The library, in words -/
def bits_Add64 (x y c : Int) : Option (Int × Int) := if 0 ≤ x ∧ 0 ≤ y ∧ 0 ≤ c ∧ c ≤ 1 then some ((x + y + c) % 18446744073709551616, (x + y + c) / 18446744073709551616) else none
def bits_Sub64 (x y b : Int) : Option (Int × Int) := if 0 ≤ x ∧ 0 ≤ y ∧ 0 ≤ b ∧ b ≤ 1 then
    some ((((x.toNat + 18446744073709551616 - y.toNat - b.toNat) % 18446744073709551616 : Nat) : Int), ((if x.toNat < y.toNat + b.toNat then 1 else 0 : Nat) : Int)) else none
def clone {α : Type} (xs : List α) : Option (List α) := app [] xs

theorem arr3 {vals : Array Value} (h : vals.size = 3) : vals = #[vals.getD 0 undef, vals.getD 1 undef, vals.getD 2 undef] := by
  obtain ⟨l⟩ := vals
  match l, h with
  | [a, b, c], _ => rfl
theorem relD_int' {P : Program} {w : World} {M : Nat → Prop} {k : IntKind} {z : Int} {v : Value} (h : RelD P w M (.int k z) v) : v = .int k z := by cases h; rfl
theorem relD_pair {P : Program} {w : World} {M : Nat → Prop} {k : IntKind} {a b : Int} : RelD P w M (.tuple [.int k a, .int k b]) (.tuple #[.int k a, .int k b]) :=
  .tuple _ _ rfl fun i hi => by
    match i, hi with
    | 0, _ => exact .int _ _
    | 1, _ => exact .int _ _
def sub64E : Array Value → Sem Value := fun args => do
  let (x, y, b) ← Extern.MathBitsCarry.three "Sub64" args
  pure (Extern.MathBitsCarry.pair ((x + Extern.MathBitsCarry.m64 - y - b) % Extern.MathBitsCarry.m64) (if x < y + b then 1 else 0))
theorem run_sub64E {P : Program} (x y b : Nat) (hb : b ≤ 1) (w : World) :
    (sub64E #[.int .u64 x, .int .u64 y, .int .u64 b]).run P w =
      .ok (.tuple #[.int .u64 (((x + 18446744073709551616 - y - b) % 18446744073709551616 : Nat) : Int), .int .u64 ((if x < y + b then 1 else 0 : Nat) : Int)]) w := by
  have : b = 0 ∨ b = 1 := by omega
  rcases this with rfl | rfl <;> rfl
theorem ok_add64 {P : Program} {n : FuncId} {fn : Func} {x y c : Int} {r : Int × Int} (hf : P.funcs[n]? = some fn) (hname : (fn.name == "runtime.NumGoroutine") = false) (hb : fn.body.isNone = true) (hn : Extern.findNext fn = none)
    (he : Extern.find fn = some add64Entry) (h : bits_Add64 x y c = some r) : ESpec P n [.int .u64 x, .int .u64 y, .int .u64 c] (.tuple [.int .u64 r.1, .int .u64 r.2]) where
  run := by
    intro M w vals hs hr
    unfold bits_Add64 at h
    split at h
    · rename_i hc
      cases h
      have e0 := relD_int' (hr 0 (by simp)); have e1 := relD_int' (hr 1 (by simp)); have e2 := relD_int' (hr 2 (by simp))
      rw [arr3 hs, e0, e1, e2]
      refine ⟨_, ?_, relD_pair⟩
      rw [run_callFunc_extern hf hname hb hn he, run_add64 x y c hc.1 hc.2.1 hc.2.2.1 hc.2.2.2]
      rfl
    · cases h
theorem ok_sub64 {P : Program} {n : FuncId} {fn : Func} {x y b : Int} {r : Int × Int} (hf : P.funcs[n]? = some fn) (hname : (fn.name == "runtime.NumGoroutine") = false) (hb : fn.body.isNone = true) (hn : Extern.findNext fn = none)
    (he : Extern.find fn = some sub64E) (h : bits_Sub64 x y b = some r) : ESpec P n [.int .u64 x, .int .u64 y, .int .u64 b] (.tuple [.int .u64 r.1, .int .u64 r.2]) where
  run := by
    intro M w vals hs hr
    unfold bits_Sub64 at h
    split at h
    · rename_i hc
      cases h
      obtain ⟨hx, hy, h0, h1⟩ := hc
      have e0 := relD_int' (hr 0 (by simp)); have e1 := relD_int' (hr 1 (by simp)); have e2 := relD_int' (hr 2 (by simp))
      rw [arr3 hs, e0, e1, e2]
      refine ⟨_, ?_, relD_pair⟩
      have ex : ([AV.int .u64 x, .int .u64 y, .int .u64 b] : List AV).getD 0 .any = .int .u64 x := rfl
      rw [run_callFunc_extern hf hname hb hn he]
      have := run_sub64E (P := P) x.toNat y.toNat b.toNat (by omega) w
      rw [Int.toNat_of_nonneg hx, Int.toNat_of_nonneg hy, Int.toNat_of_nonneg h0] at this
      rw [this]
      rfl
    · cases h
end Go.Vx
