/- A text of the proof: a verified executor of the program form, or the contracts of the functions that the law reaches. -/
import Derived.Test.YtafmdjdjabifjaaGreatDoorShLib
set_option linter.all false
namespace Go.Vx
open Go Go.RowKit
theorem i64_id {z : Int} (h1 : -9223372036854775808 ≤ z) (h2 : z ≤ 9223372036854775807) : IntKind.i64.wrap z = z := w64 h1 h2
theorem u64_id {z : Int} (h1 : 0 ≤ z) (h2 : z < 18446744073709551616) : IntKind.u64.wrap z = z := wu64 h1 h2
@[simp] theorem gd_t {α : Type} {d : α} {o : Option α} : gd true d o = o := rfl
@[simp] theorem gd_f {α : Type} {d : α} {o : Option α} : gd false d o = some d := rfl
@[simp] theorem gd_tt {α : Type} {d : α} {o : Option α} : gd (true == true) d o = o := rfl
theorem idx_of {α : Type} {xs : List α} {k : Nat} {x : α} (h : xs[k]? = some x) : idx xs (k : Int) = some x := by simp [idx, h]
theorem lt_of {α : Type} {xs : List α} {k : Nat} {x : α} (h : xs[k]? = some x) : (k : Int) < (xs.length : Int) := by
  have := (List.getElem?_eq_some_iff.1 h).1; omega
theorem get_ex {α : Type} {xs : List α} {k : Nat} (h : k < xs.length) : ∃ x, xs[k]? = some x := ⟨xs[k], List.getElem?_eq_getElem h⟩
theorem drop_cons {α : Type} {xs : List α} {k : Nat} {x : α} (h : xs[k]? = some x) : xs.drop k = x :: xs.drop (k + 1) := by
  obtain ⟨hk, rfl⟩ := List.getElem?_eq_some_iff.1 h
  exact List.drop_eq_getElem_cons hk
theorem app_of {α : Type} {xs ys : List α} (h : xs.length + ys.length ≤ 4294967296) : app xs ys = some (xs ++ ys) := by simp [app, h]

section loops
variable {σ ρ : Type}
theorem loop_to {body : σ → Option (σ ⊕ ρ)} (I : σ → Prop) (μ : σ → Nat) (F : σ → ρ) (step : ∀ s, I s → (∃ s', body s = some (.inl s') ∧ I s' ∧ μ s' < μ s ∧ F s = F s') ∨ body s = some (.inr (F s))) :
    ∀ s, I s → loop body s = some (F s) := by
  intro s hs
  obtain ⟨r, h1, h2⟩ := loop_inv (body := body) (fun s' => I s' ∧ F s = F s') μ (fun r => r = F s) (fun s' ⟨h1, h2⟩ => by
    rcases step s' h1 with ⟨s2, e1, e2, e3, e4⟩ | e
    · exact .inl ⟨s2, e1, ⟨e2, h2.trans e4⟩, e3⟩
    · exact .inr ⟨_, e, h2.symm⟩) s ⟨hs, rfl⟩
  rw [h1, h2]
variable {α : Type} {xs : List α}
theorem loop_ix1 {body : Int → Option (Int ⊕ ρ)} (F : Nat → ρ)
    (hstep : ∀ (k : Nat) x, xs[k]? = some x → (body k = some (.inl ((k : Int) + 1)) ∧ F k = F (k + 1)) ∨ body k = some (.inr (F k)))
    (hend : body xs.length = some (.inr (F xs.length))) : loop (t1 body) 0 = some (F 0) := by
  refine loop_to (body := t1 body) (fun i => ∃ k : Nat, i = k ∧ k ≤ xs.length) (fun i => xs.length - i.toNat) (fun i => F i.toNat) ?_ 0 ⟨0, rfl, Nat.zero_le _⟩
  rintro i ⟨k, rfl, hk⟩
  simp only [Int.toNat_natCast, t1_mk]
  rcases Nat.lt_or_ge k xs.length with h | h
  · obtain ⟨x, hx⟩ := get_ex h
    rcases hstep k x hx with ⟨h1, h2⟩ | h1
    · exact .inl ⟨_, h1, ⟨k + 1, by push_cast; rfl, h⟩, by omega, by rw [h2]; rfl⟩
    · exact .inr h1
  · have : k = xs.length := by omega
    subst this
    exact .inr hend
theorem loop_ix2 {body : σ → Int → Option ((σ × Int) ⊕ ρ)} (I : σ → Nat → Prop) (F : σ → Nat → ρ)
    (hstep : ∀ a (k : Nat) x, I a k → xs[k]? = some x → (∃ a', body a k = some (.inl (a', (k : Int) + 1)) ∧ I a' (k + 1) ∧ F a k = F a' (k + 1)) ∨ body a k = some (.inr (F a k)))
    (hend : ∀ a, I a xs.length → body a xs.length = some (.inr (F a xs.length))) {a0 : σ} (h0 : I a0 0) : loop (t2 body) (a0, 0) = some (F a0 0) := by
  refine loop_to (body := t2 body) (fun p => ∃ k : Nat, p.2 = k ∧ k ≤ xs.length ∧ I p.1 k) (fun p => xs.length - p.2.toNat) (fun p => F p.1 p.2.toNat) ?_ (a0, 0) ⟨0, rfl, Nat.zero_le _, h0⟩
  rintro ⟨a, i⟩ ⟨k, hi, hk, hI⟩
  simp only at hi hI
  subst hi
  simp only [Int.toNat_natCast, t2_mk]
  rcases Nat.lt_or_ge k xs.length with h | h
  · obtain ⟨x, hx⟩ := get_ex h
    rcases hstep a k x hI hx with ⟨a', h1, h2, h3⟩ | h1
    · exact .inl ⟨_, h1, ⟨k + 1, by push_cast; rfl, h, h2⟩, by simp only; omega, by rw [h3]; rfl⟩
    · exact .inr h1
  · have : k = xs.length := by omega
    subst this
    exact .inr (hend a hI)
end loops
end Go.Vx

namespace Go.Vx
open Go Go.RowKit
section err
variable {α ε : Type}
def elimO {ρ : Type} (A : ε → ρ) (Z : ρ) : Option ε → ρ
  | some e => A e
  | none => Z
@[simp] theorem elimO_some {ρ : Type} (A : ε → ρ) (Z : ρ) (e : ε) : elimO A Z (some e) = A e := rfl
@[simp] theorem elimO_none {ρ : Type} (A : ε → ρ) (Z : ρ) : elimO A Z none = Z := rfl
end err
end Go.Vx
