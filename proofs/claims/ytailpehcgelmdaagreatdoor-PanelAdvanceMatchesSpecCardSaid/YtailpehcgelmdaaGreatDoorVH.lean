/- A text of the proof: a verified executor of the program form, or the contracts of the functions that the law reaches. -/
import Derived.Test.YtailpehcgelmdaaGreatDoorVG
import Derived.Shelf.Strconv.Itoa1
import Derived.Laws.BytesString
import Derived.Laws.Cells
import Derived.Test.YtailpehcgelmdaaGreatDoorVC
set_option linter.all false
namespace Go.Vx
open Go Go.RowKit Go.Lib
theorem Zpq {vals : Array Value} (h : vals.size = 1) : vals = #[vals.getD 0 undef] := by
  obtain ⟨l⟩ := vals
  match l, h with
  | [a], _ => rfl
theorem Zoz {P : Program} {w : World} {M : Nat → Prop} {k : IntKind} {z : Int} {v : Value} (h : RelD P w M (.int k z) v) : v = .int k z := by cases h; rfl
section ops
variable {c : Ctx} {ops : Array Oper} {st : St} {dst : Option Tmp} {ty : TypeId} {pos : String} {after : Array Edge}
theorem Zj7 {f : Int → List AV} {x y : Operand} {t u e by_ r n : Nat} {xs zs : List Int} {s : Str} (h : Opv c st x (.own r n)) (hy : Opv c st y (.str s)) (hut : tStr c.P u = true) (ht : tSl c.P t e 1 by_ = true)
    (ho : nth st.hp r = some ⟨e, xs.map f⟩) (hn : xs.length = n) (hf : ∀ z, f z = [.int .u8 z]) (hby : Nat.ble by_ 32768 = true) (hz : app xs (bytes s) = some zs) :
    WVal c ops st ⟨dst, .call { callee := .builtin .append, args := #[x, y], argTypes := #[t, u] }, ty, pos, after, none⟩ (.own r zs.length) (QQ st.hp r (some ⟨e, zs.map f⟩)) := by
  have hff : f = fun z => [.int .u8 z] := funext hf
  subst hff
  unfold app apz at hz
  split at hz
  · rename_i hle
    cases hz
    have hby := Nat.le_of_ble_eq_true hby
    have hbl : (bytes s).length = s.length := by simp [bytes]
    have hmul : (n + s.length) * by_ ≤ 4294967296 * 32768 := Nat.mul_le_mul (by rw [← hn, ← hbl]; omega) hby
    cases s with
    | nil =>
      have hset : QQ st.hp r (some (⟨e, (xs ++ bytes []).map fun z => [.int .u8 z]⟩ : Own)) = st.hp := by
        simp only [bytes, List.map_nil, List.append_nil]
        generalize st.hp = hp at ho
        clear h hy
        induction hp generalizing r with
        | nil => cases ho
        | cons o hp ih =>
          cases r with
          | zero => simp only [nth] at ho; simp [QQ, ho]
          | succ r => simp only [nth] at ho; simp only [QQ]; rw [ih ho]
      rw [hset]
      simp only [bytes, List.map_nil, List.append_nil]
      refine .run rfl fun φ a w hc => ?_
      obtain ⟨hu, inf, z, hi, hs, hby, hn0, hz, hzs, hcs⟩ := tSl.spec ht
      have hO := hc.hok.obj r _ ho
      have hx := ZaB (h φ a w hc) (by rw [hO.len]; simpa using hn)
      have huu := tStr.spec hut
      have hyv := hy.str hc
      have hroom : n ≤ (φ r).cap := by have := hO.room; simpa [hn] using this
      refine ⟨_, w, φ, ?_, hc.hok, fun _ _ h => h, by rw [hn]; exact h φ a w hc⟩
      have : (Builtin.append_ #[t, u] ty #[a.eval x, a.eval y]).run c.P w = .ok (a.eval x) w := by
        rw [hx, hyv]
        cases hb : (φ r).blk with
        | none => simp [Builtin.append_, run_underlying hu, run_underlying huu, sizeOf, typeInfo, hi, Builtin.lenOf, hroom, Builtin.firstCells, ByteArray.size]
        | some b => simp [Builtin.append_, run_underlying hu, run_underlying huu, sizeOf, typeInfo, hi, Builtin.lenOf, hroom, Builtin.firstCells, storeCells, ByteArray.size]
      simp only [execOp, resolve, invoke, builtin]
      simp [this]
    | cons b s =>
      have := ZkU (c := c) (ops := ops) (dst := dst) (ty := ty) (pos := pos) (after := after) (sz := 1) (m := (b :: s).length) (ys := (bytes (b :: s)).map fun z => [.int .u8 z]) h hy hut rfl (by simp [bytes]) ht ho (by simpa using hn) rfl (by simp [bytes]) (by simp) (Nat.le_trans hmul (by decide)) (by rw [← hn]; simp only [bytes, List.length_map, List.length_append, List.length_cons] at hle ⊢; omega)
      rw [← hn, show (b :: s).length = (bytes (b :: s)).length by rw [hbl], ← List.length_append] at this
      simpa [List.map_append] using this
  · cases hz
end ops
end Go.Vx
namespace Go.Vx
open Go Go.RowKit Go.Lib
section ops
variable {c : Ctx} {ops : Array Oper} {st : St} {dst : Option Tmp} {ty : TypeId} {pos : String} {after : Array Edge}
end ops
end Go.Vx

namespace Go.Vx
open Go Go.RowKit
theorem ZmF {P : Program} {w : World} {name : String} {g : Nat} {cs : Array Value} (hg : P.globalNamed name = some g) (hv : w.var? P name = some cs) : ∃ e fr, w.heap[g]? = some (.cells cs e fr) := by
  unfold World.var? at hv
  rw [hg] at hv
  simp only [Option.bind_some] at hv
  split at hv
  · rename_i h; cases hv; exact ⟨_, _, h⟩
  · cases hv
theorem ZnM {w : World} {g : Nat} {o : Obj} (h : w.heap[g]? = some o) : g < w.heap.size := (Array.getElem?_eq_some_iff.1 h).1
end Go.Vx

namespace Go.Vx
open Go Go.RowKit
def wfI (k : IntKind) (n : Int) : Prop := (Lit.int k n).wf = true
def wfT (_ : Bool) : Prop := True
def wfS (s : Str) : Prop := s.length ≤ 9223372036854775807
def wfL {α : Type} (p : α → Prop) (l : List α) : Prop := l.length ≤ 9223372036854775807 ∧ ∀ x ∈ l, p x
theorem ZkG {α : Type} {f : α → List AV} {p : α → Prop} : ∀ {l : List (List AV)}, (∀ i, i < l.length → ∃ x, p x ∧ l.getD i [] = f x) → ∃ xs : List α, (∀ x ∈ xs, p x) ∧ l = xs.map f
  | [], _ => ⟨[], (fun _ h => by cases h), rfl⟩
  | a :: l, h => by
    obtain ⟨x, hp, hx⟩ := h 0 (by simp)
    obtain ⟨xs, hps, hxs⟩ := ZkG (l := l) (fun i hi => by simpa using h (i + 1) (by simpa using hi))
    refine ⟨x :: xs, fun y hy => ?_, by simp at hx; simp [hx, hxs]⟩
    rcases List.mem_cons.1 hy with rfl | hy
    · exact hp
    · exact hps y hy
theorem X5 {k : IntKind} {av : AV} (h : Fits (.int k) av) : ∃ n, wfI k n ∧ av = .int k n := by
  cases h with
  | int hw => exact ⟨_, hw, rfl⟩
theorem Zi0 {av : AV} (h : Fits .bool av) : ∃ n, wfT n ∧ av = .bool n := by cases h; exact ⟨_, trivial, rfl⟩
theorem ZiD {av : AV} (h : Fits .str av) : ∃ n : Str, wfS n ∧ av = .str n := by
  cases h with
  | str hl => exact ⟨_, by simpa [maxLen, wfS] using hl, rfl⟩
theorem Zhv {α : Type} {f : α → List AV} {p : α → Prop} {e : TypeId} {ss : List Sh} {av : AV} (H : ∀ l, Zdz ss l → ∃ x, p x ∧ l = f x) (h : Fits (.sl e ss) av) : ∃ xs : List α, wfL p xs ∧ av = .sl e (xs.map f) := by
  cases h with
  | @sl _ _ l hl h1 h2 =>
    obtain ⟨xs, hp, rfl⟩ := ZkG (f := f) (p := p) (l := l) fun i hi => H _ ⟨by rw [List.getD_eq_getElem?_getD, List.getElem?_eq_getElem hi]; exact h1 _ (List.getElem_mem _), fun j hj => h2 i j hi hj⟩
    exact ⟨xs, ⟨by simpa [maxLen] using hl, hp⟩, rfl⟩
end Go.Vx

namespace Go.Vx
open Go Go.RowKit Go.Lib
section ops
variable {c : Ctx} {ops : Array Oper} {st : St} {dst : Option Tmp} {ty : TypeId} {pos : String} {after : Array Edge}
end ops
end Go.Vx
