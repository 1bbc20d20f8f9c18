/- A text of the proof: a verified executor of the program form, or the contracts of the functions that the law reaches. -/
import Derived.Test.YtjjlfkjacmhcmaaVN
import Derived.Shelf.Strings.FuncGrows
set_option linter.all false
namespace Go.Vx
open Go Go.RowKit Go.Proofs

noncomputable def JG (s : Str) (f : Int → Option Bool) : Option Bool := by
  classical
  exact if ∀ x : Nat, x ≤ 1114111 → (f x).isSome = true then some (decide (0 ≤ Lib.idxFunc (fun x => (f x).getD false) true ⟨s.toArray⟩)) else none

theorem GlOK.later {gl : Gl} {w w' : World} {A : Nat → Prop} (h : GlOK gl w A []) (hb : Below w.heap.size w w') : GlOK gl w' A [] := by
  refine ⟨Nat.le_trans h.len hb.size, (fun b hb => by cases hb), fun p hp => ?_⟩
  obtain ⟨h1, ⟨e, fr, h2⟩, h3⟩ := h.tab p hp
  exact ⟨h1, ⟨e, fr, (hb.block p.1 (Array.getElem?_eq_some_iff.1 h2).1).trans h2⟩, h3⟩

theorem ZfK {P : Program} {gl : Gl} {n : FuncId} (hc : callable P n = true)
    (C : ∀ (g : Nat) (lb : Array Value) (_ : ∀ args w, (callFunc g args).run P w = .ok (.enter g args) w) (p : Nat → Bool) (s : ByteArray) (w : World) (_ : PredGrows P g lb p w),
      Calls P n #[.string s, .func (.func g) #[] lb] w fun e w' => e = .returned (.bool (decide (0 ≤ Lib.idxFunc p true s))) ∧ Below w.heap.size w w')
    {s : Str} {f : Int → Option Bool} {r : Bool} {f_f : FuncId} {f_c : List AV} (f_d : f_c.all datB = true) (f_h : ∀ (z0 : Int) z, f z0 = some z → CSpec P gl f_f ([.int .i32 z0] ++ f_c) (.bool z)) (h : JG s f = some r) :
    CSpec P gl n [.str s, .fn f_f f_c] (.bool r) := by
  unfold JG at h
  split at h
  case isFalse => cases h
  rename_i hall
  cases h
  refine ⟨hc, fun A w vals hA hgl hsz hv => ?_⟩
  have h0 := hv 0 (by simp)
  have h1 := hv 1 (by simp)
  simp only [List.getD_cons_zero, List.getD_cons_succ] at h0 h1
  have e0 : vals.getD 0 undef = .string ⟨s.toArray⟩ := by
    generalize vals.getD 0 undef = x at h0
    cases h0; rfl
  obtain ⟨lb, e1, hl, hr⟩ : ∃ lb, vals.getD 1 undef = .func (.func f_f) #[] lb ∧ f_c.length = lb.size ∧ ∀ i, i < f_c.length → RelD P w A (f_c.getD i .any) (lb.getD i undef) := by
    generalize vals.getD 1 undef = x at h1
    cases h1 with | fn _ _ lb a b => exact ⟨lb, rfl, a, b⟩
  have hvals : vals = #[.string ⟨s.toArray⟩, .func (.func f_f) #[] lb] := by
    have h2 := Zmu (vals := vals) (by simpa using hsz)
    rw [e0, e1] at h2
    exact h2
  rw [hvals]
  obtain ⟨z0, hz0⟩ := Option.isSome_iff_exists.1 (hall 0 (by decide))
  have hcal := (f_h _ _ hz0).call
  refine (C f_f lb (fun args w => ZbP hcal args w) (fun x => (f x).getD false) ⟨s.toArray⟩ w ?_).mono ?_
  · intro W x hx hb
    obtain ⟨z, hz⟩ := Option.isSome_iff_exists.1 (hall x hx)
    refine ((f_h _ _ hz).spec A W (#[encR x] ++ lb) (fun b hb' => Nat.lt_of_lt_of_le (hA b hb') hb.size) (hgl.later hb) (by simp [hl]; omega) (fun i hi => ?_)).mono ?_
    · cases i with
      | zero =>
        have e2 : (#[encR x] ++ lb).getD 0 undef = .int .i32 (x : Int) := by
          simp only [Array.getD_eq_getD_getElem?, Array.getElem?_append, List.size_toArray, List.length_singleton]
          rfl
        rw [e2]; exact .int _ _
      | succ i =>
        have hi' : i < f_c.length := by simp at hi; omega
        have := (hr i hi').mono hb.size (fun b hb' _ => hb.block b hb') (fun _ _ h => h)
        have e2 : ([AV.int .i32 (x : Int)] ++ f_c).getD (i + 1) .any = f_c.getD i .any := by simp
        have e3 : (#[encR x] ++ lb).getD (i + 1) undef = lb.getD i undef := by
          simp only [Array.getD_eq_getD_getElem?, Array.getElem?_append, List.size_toArray, List.length_singleton]
          simp
        rw [e2, e3]; exact this
    · rintro e w' ⟨v, rfl, hb', hv'⟩
      cases hv'
      exact ⟨by simp only [hz, Option.getD_some], hb'⟩
  · rintro e w' ⟨rfl, hb⟩
    exact ⟨_, rfl, hb, .bool _⟩
end Go.Vx

namespace Go.Vx
open Go Go.RowKit
def tPtr (P : Program) (t : TypeId) : Bool := match P.underlying t with | some (.pointer _) => true | _ => false
theorem tPtr.spec {P : Program} {t : TypeId} (h : tPtr P t = true) : ∃ e, P.underlying t = some (.pointer e) := by
  unfold tPtr at h
  split at h
  · rename_i e he; exact ⟨e, he⟩
  · cases h
section ops
variable {c : Ctx} {ops : Array Oper} {st : St} {dst : Option Tmp} {ty : TypeId} {pos : String} {after : Array Edge} {x y : Operand} {t u : Nat}
end ops
end Go.Vx

namespace Go.Vx
open Go Go.RowKit
def At (row : List AV) (o n : Nat) (sub : List AV) : Prop := (row.drop o).take n = sub ∧ o + n ≤ row.length
def Put (row : List AV) (o : Nat) (l row' : List AV) : Prop := row.take o ++ (l ++ row.drop (o + l.length)) = row'

theorem Zlr {row sub : List AV} {o n : Nat} (h : At row o n sub) : sub.length = n := by
  obtain ⟨h1, h2⟩ := h; rw [← h1]; simp; omega
theorem ZdC {row sub sub' : List AV} {o n o' n' : Nat} (h : At row o n sub) (k : At sub o' n' sub') : At row (o + o') n' sub' := by
  have hl := Zlr h
  obtain ⟨h1, h2⟩ := h
  obtain ⟨k1, k2⟩ := k
  refine ⟨?_, by omega⟩
  rw [← k1, ← h1, List.drop_take, List.take_take, List.drop_drop, Nat.min_eq_left (by omega)]
theorem Zb3 {row : List AV} {o : Nat} {v : AV} (h : At row o 1 [v]) : row[o]? = some v := by
  obtain ⟨h1, h2⟩ := h
  have : (row.drop o)[0]? = some v := by
    have h3 := congrArg (·[0]?) h1
    simpa using h3
  simpa using this
theorem JC {row sub : List AV} {o n : Nat} (h : At row o n sub) : (row.drop o).take n = sub := h.1
theorem Z8 {row : List AV} {n : Nat} (h : row.length = n) : At row 0 n row := ⟨by simp [← h], by omega⟩
theorem ZbI {row l : List AV} (h : row.length = l.length) : Put row 0 l l := by simp [Put, h]
theorem ZcM {row sub l : List AV} {o n : Nat} (h : At row o n sub) (hl : l.length = n) : o + l.length ≤ row.length := by rw [hl]; exact h.2

def Hd (row : List AV) (n : Nat) (sub : List AV) : Prop := row.take n = sub ∧ n ≤ row.length
theorem hdl {A : List AV} {m : Nat} (hA : A.length = m) : Hd A m A := ⟨by simp [← hA], by omega⟩
section vec
variable {α : Type} {n : Nat} {v : Vector α n} {f : α → AV} {R : α → List AV} {z : Int} {u : α}
theorem ZdF (h : Qj v z = some u) : At (v.toList.map f) (z.toNat * 1) 1 [f u] := by
  obtain ⟨_, h2, h3⟩ := Xj h
  refine ⟨?_, by simp; omega⟩
  rw [Nat.mul_one]
  have hlt : z.toNat < (v.toList.map f).length := by simpa using h2
  rw [List.drop_eq_getElem_cons hlt]
  simp [List.getElem?_eq_some_iff.1 h3 |>.2]
theorem Zhq (h : ∀ x, (R x).all datB = true) : (v.toList.flatMap R).all datB = true := by
  rw [List.all_eq_true]; intro x hx; obtain ⟨y, _, hy⟩ := List.mem_flatMap.1 hx; exact List.all_eq_true.1 (h y) x hy
end vec

theorem alN {p : AV → Bool} : ([] : List AV).all p = true := rfl
theorem alC {p : AV → Bool} {x : AV} {t : List AV} (h : p x = true) (k : t.all p = true) : (x :: t).all p = true := by simp only [List.all_cons, h, k, Bool.and_self]
theorem alA {p : AV → Bool} {A t : List AV} (h : A.all p = true) (k : t.all p = true) : (A ++ t).all p = true := by simp only [List.all_append, h, k, Bool.and_self]
theorem rla {q : Rw} {A A' l m : List AV} (h : Zgn q A A') (k : Zgn q l m) : Zgn q (A ++ l) (A' ++ m) := by
  refine ⟨by simp [h.1, k.1], fun i hi => ?_⟩
  by_cases c : i < A.length
  · have c' : i < A'.length := by rw [← h.1]; exact c
    have := h.2 i c
    simpa [List.getD_eq_getElem?_getD, List.getElem?_append_left c, List.getElem?_append_left c'] using this
  · have h1 := h.1
    have := k.2 (i - A.length) (by simp at hi; omega)
    rw [List.getD_eq_getElem?_getD, List.getElem?_append_right (by omega), List.getD_eq_getElem?_getD, List.getElem?_append_right (by omega), ← h1]
    simpa [List.getD_eq_getElem?_getD] using this
end Go.Vx

namespace Go.Vx
open Go Go.RowKit
section
variable {c : Ctx} {ops : Array Oper} {st : St} {dst : Option Tmp} {ty : TypeId} {pos : String} {after : Array Edge}
end
end Go.Vx
