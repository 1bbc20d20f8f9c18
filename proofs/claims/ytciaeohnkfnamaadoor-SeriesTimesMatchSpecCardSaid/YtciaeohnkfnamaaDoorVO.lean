/- A text of the proof: a verified executor of the program form, or the contracts of the functions that the law reaches. -/
import Derived.Test.YtciaeohnkfnamaaDoorVN
import Derived.Shelf.Strings.FuncGrows
import Derived.Test.YtciaeohnkfnamaaDoorVH
import Derived.Test.YtciaeohnkfnamaaDoorVC
set_option linter.all false
namespace Go.Vx
open Go Go.RowKit Go.Proofs

noncomputable def containsFunc (s : Str) (f : Int → Option Bool) : Option Bool := by
  classical
  exact if ∀ x : Nat, x ≤ 1114111 → (f x).isSome = true then some (decide (0 ≤ Lib.idxFunc (fun x => (f x).getD false) true ⟨s.toArray⟩)) else none

theorem GlOK.later {gl : Gl} {w w' : World} {A : Nat → Prop} (h : GlOK gl w A []) (hb : Below w.heap.size w w') : GlOK gl w' A [] := by
  refine ⟨Nat.le_trans h.len hb.size, (fun b hb => by cases hb), fun p hp => ?_⟩
  obtain ⟨h1, ⟨e, fr, h2⟩, h3⟩ := h.tab p hp
  exact ⟨h1, ⟨e, fr, (hb.block p.1 (Array.getElem?_eq_some_iff.1 h2).1).trans h2⟩, h3⟩

theorem ok_containsFunc {P : Program} {gl : Gl} {n : FuncId} (hc : callable P n = true)
    (C : ∀ (g : Nat) (lb : Array Value) (_ : ∀ args w, (callFunc g args).run P w = .ok (.enter g args) w) (p : Nat → Bool) (s : ByteArray) (w : World) (_ : PredGrows P g lb p w),
      Calls P n #[.string s, .func (.func g) #[] lb] w fun e w' => e = .returned (.bool (decide (0 ≤ Lib.idxFunc p true s))) ∧ Below w.heap.size w w')
    {s : Str} {f : Int → Option Bool} {r : Bool} {f_f : FuncId} {f_c : List AV} (f_d : f_c.all datB = true) (f_h : ∀ (z0 : Int) z, f z0 = some z → CSpec P gl f_f ([.int .i32 z0] ++ f_c) (.bool z)) (h : containsFunc s f = some r) :
    CSpec P gl n [.str s, .fn f_f f_c] (.bool r) := by
  unfold containsFunc at h
  split at h
  case isFalse => cases h
  rename_i hall
  cases h
  refine ⟨hc, fun A w vals hA hgl hsz hv => ?_⟩
  have h0 := hv 0 (by simp)
  have h1 := hv 1 (by simp)
  simp only [List.getD_cons_zero, List.getD_cons_succ] at h0 h1
  have e0 : vals.getD 0 undef = .string ⟨s.toArray⟩ := by
    generalize vals.getD 0 undef = x at h0
    cases h0; rfl
  obtain ⟨lb, e1, hl, hr⟩ : ∃ lb, vals.getD 1 undef = .func (.func f_f) #[] lb ∧ f_c.length = lb.size ∧ ∀ i, i < f_c.length → RelD P w A (f_c.getD i .any) (lb.getD i undef) := by
    generalize vals.getD 1 undef = x at h1
    cases h1 with | fn _ _ lb a b => exact ⟨lb, rfl, a, b⟩
  have hvals : vals = #[.string ⟨s.toArray⟩, .func (.func f_f) #[] lb] := by
    have h2 := arr2 (vals := vals) (by simpa using hsz)
    rw [e0, e1] at h2
    exact h2
  rw [hvals]
  obtain ⟨z0, hz0⟩ := Option.isSome_iff_exists.1 (hall 0 (by decide))
  have hcal := (f_h _ _ hz0).call
  refine (C f_f lb (fun args w => run_callFunc hcal args w) (fun x => (f x).getD false) ⟨s.toArray⟩ w ?_).mono ?_
  · intro W x hx hb
    obtain ⟨z, hz⟩ := Option.isSome_iff_exists.1 (hall x hx)
    refine ((f_h _ _ hz).spec A W (#[encR x] ++ lb) (fun b hb' => Nat.lt_of_lt_of_le (hA b hb') hb.size) (hgl.later hb) (by simp [hl]; omega) (fun i hi => ?_)).mono ?_
    · cases i with
      | zero =>
        have e2 : (#[encR x] ++ lb).getD 0 undef = .int .i32 (x : Int) := by
          simp only [Array.getD_eq_getD_getElem?, Array.getElem?_append, List.size_toArray, List.length_singleton]
          rfl
        rw [e2]; exact .int _ _
      | succ i =>
        have hi' : i < f_c.length := by simp at hi; omega
        have := (hr i hi').mono hb.size (fun b hb' _ => hb.block b hb') (fun _ _ h => h)
        have e2 : ([AV.int .i32 (x : Int)] ++ f_c).getD (i + 1) .any = f_c.getD i .any := by simp
        have e3 : (#[encR x] ++ lb).getD (i + 1) undef = lb.getD i undef := by
          simp only [Array.getD_eq_getD_getElem?, Array.getElem?_append, List.size_toArray, List.length_singleton]
          simp
        rw [e2, e3]; exact this
    · rintro e w' ⟨v, rfl, hb', hv'⟩
      cases hv'
      exact ⟨by simp only [hz, Option.getD_some], hb'⟩
  · rintro e w' ⟨rfl, hb⟩
    exact ⟨_, rfl, hb, .bool _⟩
end Go.Vx

namespace Go.Vx
open Go Go.RowKit
def tPtr (P : Program) (t : TypeId) : Bool := match P.underlying t with | some (.pointer _) => true | _ => false
theorem tPtr.spec {P : Program} {t : TypeId} (h : tPtr P t = true) : ∃ e, P.underlying t = some (.pointer e) := by
  unfold tPtr at h
  split at h
  · rename_i e he; exact ⟨e, he⟩
  · cases h
section ops
variable {c : Ctx} {ops : Array Oper} {st : St} {dst : Option Tmp} {ty : TypeId} {pos : String} {after : Array Edge} {x y : Operand} {t u : Nat}
end ops
end Go.Vx

namespace Go.Vx
open Go Go.RowKit
def At (row : List AV) (o n : Nat) (sub : List AV) : Prop := (row.drop o).take n = sub ∧ o + n ≤ row.length
def Put (row : List AV) (o : Nat) (l row' : List AV) : Prop := row.take o ++ (l ++ row.drop (o + l.length)) = row'

theorem at_sub {row sub : List AV} {o n : Nat} (h : At row o n sub) : (row.drop o).take n = sub := h.1
theorem at_all {row : List AV} {n : Nat} (h : row.length = n) : At row 0 n row := ⟨by simp [← h], by omega⟩
theorem put_all {row l : List AV} (h : row.length = l.length) : Put row 0 l l := by simp [Put, h]
theorem put_le {row sub l : List AV} {o n : Nat} (h : At row o n sub) (hl : l.length = n) : o + l.length ≤ row.length := by rw [hl]; exact h.2

def Hd (row : List AV) (n : Nat) (sub : List AV) : Prop := row.take n = sub ∧ n ≤ row.length
theorem hd0 {t : List AV} : Hd t 0 [] := ⟨rfl, Nat.zero_le _⟩
section vec
variable {α : Type} {n : Nat} {v : Vector α n} {f : α → AV} {R : α → List AV} {z : Int} {u : α}
end vec

end Go.Vx

namespace Go.Vx
open Go Go.RowKit
section
variable {c : Ctx} {ops : Array Oper} {st : St} {dst : Option Tmp} {ty : TypeId} {pos : String} {after : Array Edge}
end
end Go.Vx

namespace Go.Vx
open Go Go.RowKit
theorem var_heap {P : Program} {w : World} {name : String} {g : Nat} {cs : Array Value} (hg : P.globalNamed name = some g) (hv : w.var? P name = some cs) : ∃ e fr, w.heap[g]? = some (.cells cs e fr) := by
  unfold World.var? at hv
  rw [hg] at hv
  simp only [Option.bind_some] at hv
  split at hv
  · rename_i h; cases hv; exact ⟨_, _, h⟩
  · cases hv
theorem heap_lt {w : World} {g : Nat} {o : Obj} (h : w.heap[g]? = some o) : g < w.heap.size := (Array.getElem?_eq_some_iff.1 h).1
end Go.Vx

namespace Go.Vx
open Go Go.RowKit
def wfI (k : IntKind) (n : Int) : Prop := (Lit.int k n).wf = true
def wfS (s : Str) : Prop := s.length ≤ 9223372036854775807
def wfL {α : Type} (p : α → Prop) (l : List α) : Prop := l.length ≤ 9223372036854775807 ∧ ∀ x ∈ l, p x
theorem rows_ofW {α : Type} {f : α → List AV} {p : α → Prop} : ∀ {l : List (List AV)}, (∀ i, i < l.length → ∃ x, p x ∧ l.getD i [] = f x) → ∃ xs : List α, (∀ x ∈ xs, p x) ∧ l = xs.map f
  | [], _ => ⟨[], (fun _ h => by cases h), rfl⟩
  | a :: l, h => by
    obtain ⟨x, hp, hx⟩ := h 0 (by simp)
    obtain ⟨xs, hps, hxs⟩ := rows_ofW (l := l) (fun i hi => by simpa using h (i + 1) (by simpa using hi))
    refine ⟨x :: xs, fun y hy => ?_, by simp at hx; simp [hx, hxs]⟩
    rcases List.mem_cons.1 hy with rfl | hy
    · exact hp
    · exact hps y hy
theorem int_ofW {k : IntKind} {av : AV} (h : Fits (.int k) av) : ∃ n, wfI k n ∧ av = .int k n := by
  cases h with
  | int hw => exact ⟨_, hw, rfl⟩
theorem str_ofW {av : AV} (h : Fits .str av) : ∃ n : Str, wfS n ∧ av = .str n := by
  cases h with
  | str hl => exact ⟨_, by simpa [maxLen, wfS] using hl, rfl⟩
theorem sl_ofW {α : Type} {f : α → List AV} {p : α → Prop} {e : TypeId} {ss : List Sh} {av : AV} (H : ∀ l, FitsL ss l → ∃ x, p x ∧ l = f x) (h : Fits (.sl e ss) av) : ∃ xs : List α, wfL p xs ∧ av = .sl e (xs.map f) := by
  cases h with
  | @sl _ _ l hl h1 h2 =>
    obtain ⟨xs, hp, rfl⟩ := rows_ofW (f := f) (p := p) (l := l) fun i hi => H _ ⟨by rw [List.getD_eq_getElem?_getD, List.getElem?_eq_getElem hi]; exact h1 _ (List.getElem_mem _), fun j hj => h2 i j hi hj⟩
    exact ⟨xs, ⟨by simpa [maxLen] using hl, hp⟩, rfl⟩
end Go.Vx
