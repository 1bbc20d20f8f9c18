/- A text of the proof: a verified executor of the program form, or the contracts of the functions that the law reaches. -/
import Derived.Test.YtafmdjdjabifjaaGreatDoorShLib
set_option linter.all false
namespace Go.Vx
open Go Go.RowKit
/-! ## Plain lemmas on the words of the printed functions -/
theorem i64_id {z : Int} (h1 : -9223372036854775808 ≤ z) (h2 : z ≤ 9223372036854775807) : IntKind.i64.wrap z = z := w64 h1 h2
theorem u64_id {z : Int} (h1 : 0 ≤ z) (h2 : z < 18446744073709551616) : IntKind.u64.wrap z = z := wu64 h1 h2
@[simp] theorem gd_t {α : Type} {d : α} {o : Option α} : gd true d o = o := rfl
@[simp] theorem gd_f {α : Type} {d : α} {o : Option α} : gd false d o = some d := rfl
@[simp] theorem gd_tt {α : Type} {d : α} {o : Option α} : gd (true == true) d o = o := rfl
theorem idx_of {α : Type} {xs : List α} {k : Nat} {x : α} (h : xs[k]? = some x) : idx xs (k : Int) = some x := by simp [idx, h]
theorem lt_of {α : Type} {xs : List α} {k : Nat} {x : α} (h : xs[k]? = some x) : (k : Int) < (xs.length : Int) := by
  have := (List.getElem?_eq_some_iff.1 h).1; omega
theorem get_ex {α : Type} {xs : List α} {k : Nat} (h : k < xs.length) : ∃ x, xs[k]? = some x := ⟨xs[k], List.getElem?_eq_getElem h⟩
theorem drop_cons {α : Type} {xs : List α} {k : Nat} {x : α} (h : xs[k]? = some x) : xs.drop k = x :: xs.drop (k + 1) := by
  obtain ⟨hk, rfl⟩ := List.getElem?_eq_some_iff.1 h
  exact List.drop_eq_getElem_cons hk
theorem app_of {α : Type} {xs ys : List α} (h : xs.length + ys.length ≤ 4294967296) : app xs ys = some (xs ++ ys) := by simp [app, h]

section loops
variable {σ ρ : Type}
/-- A loop whose result is told by each of its states. -/
theorem loop_to {body : σ → Option (σ ⊕ ρ)} (I : σ → Prop) (μ : σ → Nat) (F : σ → ρ) (step : ∀ s, I s → (∃ s', body s = some (.inl s') ∧ I s' ∧ μ s' < μ s ∧ F s = F s') ∨ body s = some (.inr (F s))) :
    ∀ s, I s → loop body s = some (F s) := by
  intro s hs
  obtain ⟨r, h1, h2⟩ := loop_inv (body := body) (fun s' => I s' ∧ F s = F s') μ (fun r => r = F s) (fun s' ⟨h1, h2⟩ => by
    rcases step s' h1 with ⟨s2, e1, e2, e3, e4⟩ | e
    · exact .inl ⟨s2, e1, ⟨e2, h2.trans e4⟩, e3⟩
    · exact .inr ⟨_, e, h2.symm⟩) s ⟨hs, rfl⟩
  rw [h1, h2]
variable {α : Type} {xs : List α}
/-- for i over a list, nothing is kept. -/
theorem loop_ix1 {body : Int → Option (Int ⊕ ρ)} (F : Nat → ρ)
    (hstep : ∀ (k : Nat) x, xs[k]? = some x → (body k = some (.inl ((k : Int) + 1)) ∧ F k = F (k + 1)) ∨ body k = some (.inr (F k)))
    (hend : body xs.length = some (.inr (F xs.length))) : loop (t1 body) 0 = some (F 0) := by
  refine loop_to (body := t1 body) (fun i => ∃ k : Nat, i = k ∧ k ≤ xs.length) (fun i => xs.length - i.toNat) (fun i => F i.toNat) ?_ 0 ⟨0, rfl, Nat.zero_le _⟩
  rintro i ⟨k, rfl, hk⟩
  simp only [Int.toNat_natCast, t1_mk]
  rcases Nat.lt_or_ge k xs.length with h | h
  · obtain ⟨x, hx⟩ := get_ex h
    rcases hstep k x hx with ⟨h1, h2⟩ | h1
    · exact .inl ⟨_, h1, ⟨k + 1, by push_cast; rfl, h⟩, by omega, by rw [h2]; rfl⟩
    · exact .inr h1
  · have : k = xs.length := by omega
    subst this
    exact .inr hend
/-- for i over a list; 'a' is kept. -/
theorem loop_ix2 {body : σ → Int → Option ((σ × Int) ⊕ ρ)} (I : σ → Nat → Prop) (F : σ → Nat → ρ)
    (hstep : ∀ a (k : Nat) x, I a k → xs[k]? = some x → (∃ a', body a k = some (.inl (a', (k : Int) + 1)) ∧ I a' (k + 1) ∧ F a k = F a' (k + 1)) ∨ body a k = some (.inr (F a k)))
    (hend : ∀ a, I a xs.length → body a xs.length = some (.inr (F a xs.length))) {a0 : σ} (h0 : I a0 0) : loop (t2 body) (a0, 0) = some (F a0 0) := by
  refine loop_to (body := t2 body) (fun p => ∃ k : Nat, p.2 = k ∧ k ≤ xs.length ∧ I p.1 k) (fun p => xs.length - p.2.toNat) (fun p => F p.1 p.2.toNat) ?_ (a0, 0) ⟨0, rfl, Nat.zero_le _, h0⟩
  rintro ⟨a, i⟩ ⟨k, hi, hk, hI⟩
  simp only at hi hI
  subst hi
  simp only [Int.toNat_natCast, t2_mk]
  rcases Nat.lt_or_ge k xs.length with h | h
  · obtain ⟨x, hx⟩ := get_ex h
    rcases hstep a k x hI hx with ⟨a', h1, h2, h3⟩ | h1
    · exact .inl ⟨_, h1, ⟨k + 1, by push_cast; rfl, h, h2⟩, by simp only; omega, by rw [h3]; rfl⟩
    · exact .inr h1
  · have : k = xs.length := by omega
    subst this
    exact .inr (hend a hI)
end loops
end Go.Vx

namespace Go.Vx
open Go Go.RowKit
/-! ## Lists that are checked element by element -/
section err
variable {α ε : Type}
def prevA (xs : List α) (k : Nat) : Option α := if k = 0 then none else xs[k - 1]?
def errL (g : Option α → α → Option ε) : Option α → List α → Option ε
  | _, [] => none
  | p, x :: tl => match g p x with | some e => some e | none => errL g (some x) tl
theorem prevA_succ {xs : List α} {k : Nat} {x : α} (h : xs[k]? = some x) : prevA xs (k + 1) = some x := by simp [prevA, h]
theorem prevA_zero {xs : List α} : prevA xs 0 = none := rfl
theorem prevA_pos {xs : List α} {k : Nat} (hk : 0 < k) (h : k ≤ xs.length) : ∃ y, xs[k - 1]? = some y ∧ prevA xs k = some y ∧ idx xs ((k : Int) - 1) = some y := by
  obtain ⟨y, hy⟩ := get_ex (xs := xs) (k := k - 1) (by omega)
  refine ⟨y, hy, by simp [prevA, hy]; omega, ?_⟩
  have : ((k : Int) - 1) = ((k - 1 : Nat) : Int) := by omega
  rw [this, idx_of hy]
def elimO {ρ : Type} (A : ε → ρ) (Z : ρ) : Option ε → ρ
  | some e => A e
  | none => Z
@[simp] theorem elimO_some {ρ : Type} (A : ε → ρ) (Z : ρ) (e : ε) : elimO A Z (some e) = A e := rfl
@[simp] theorem elimO_none {ρ : Type} (A : ε → ρ) (Z : ρ) : elimO A Z none = Z := rfl
theorem loop_err {ρ : Type} {xs : List α} (g : Option α → α → Option ε) (A : ε → ρ) (Z : ρ) {body : Int → Option (Int ⊕ ρ)}
    (h : ∀ (k : Nat) x, xs[k]? = some x → body k = match g (prevA xs k) x with | some e => some (.inr (A e)) | none => some (.inl ((k : Int) + 1)))
    (hend : body xs.length = some (.inr Z)) : loop (t1 body) 0 = some (elimO A Z (errL g none xs)) := by
  refine loop_ix1 (xs := xs) (fun k => elimO A Z (errL g (prevA xs k) (xs.drop k))) (fun k x hx => ?_) ?_
  · rw [h k x hx, drop_cons hx]
    simp only [errL]
    cases hg : g (prevA xs k) x with
    | some e => right; rfl
    | none => left; exact ⟨rfl, by rw [prevA_succ hx]⟩
  · rw [hend]; simp [errL]
theorem errL_none {g : Option α → α → Option ε} : ∀ {p : Option α} {xs : List α}, errL g p xs = none → ∀ (k : Nat) x, xs[k]? = some x → g (if k = 0 then p else xs[k - 1]?) x = none
  | p, [], _, k, x, hx => by simp at hx
  | p, y :: tl, h, k, x, hx => by
    simp only [errL] at h
    cases hg : g p y with
    | some e => rw [hg] at h; cases h
    | none =>
      rw [hg] at h
      cases k with
      | zero => simp only [List.getElem?_cons_zero, Option.some.injEq] at hx; subst hx; simpa using hg
      | succ k =>
        have := errL_none h k x (by simpa using hx)
        cases k with
        | zero => simpa using this
        | succ k => simpa using this
/-- A loop over a list that looks for the first answer. -/
def findL (g : α → Option ε) : List α → Option ε
  | [] => none
  | x :: tl => match g x with | some e => some e | none => findL g tl
theorem loop_find {ρ : Type} {xs : List α} (g : α → Option ε) (A : ε → ρ) (Z : ρ) {body : Int → Option (Int ⊕ ρ)}
    (h : ∀ (k : Nat) x, xs[k]? = some x → body k = match g x with | some e => some (.inr (A e)) | none => some (.inl ((k : Int) + 1)))
    (hend : body xs.length = some (.inr Z)) : loop (t1 body) 0 = some (elimO A Z (findL g xs)) := by
  refine loop_ix1 (xs := xs) (fun k => elimO A Z (findL g (xs.drop k))) (fun k x hx => ?_) ?_
  · rw [h k x hx, drop_cons hx]
    simp only [findL]
    cases hg : g x with
    | some e => right; rfl
    | none => left; exact ⟨rfl, rfl⟩
  · rw [hend]; simp [findL]
end err
/-- One element behind the other. -/
theorem loop_map {α β : Type} {xs : List α} {body : List β → Int → Option ((List β × Int) ⊕ (List β))} (g : α → β)
    (hstep : ∀ (k : Nat) x acc, xs[k]? = some x → acc.length = k → body acc k = some (.inl (acc ++ [g x], (k : Int) + 1)))
    (hend : ∀ acc, body acc xs.length = some (.inr acc)) : loop (t2 body) ([], 0) = some (xs.map g) := by
  refine (loop_to (body := t2 body) (fun p => ∃ k : Nat, p.2 = k ∧ k ≤ xs.length ∧ p.1.length = k) (fun p => xs.length - p.2.toNat) (fun p => p.1 ++ (xs.drop p.2.toNat).map g) ?_ ([], 0) ⟨0, rfl, Nat.zero_le _, rfl⟩).trans (by simp)
  rintro ⟨acc, i⟩ ⟨k, hi, hk, ha⟩
  simp only at hi ha
  subst hi
  simp only [t2_mk, Int.toNat_natCast]
  rcases Nat.lt_or_ge k xs.length with h | h
  · obtain ⟨x, hx⟩ := get_ex h
    left
    refine ⟨_, hstep k x acc hx ha, ⟨k + 1, by push_cast; rfl, h, by simp [ha]⟩, by simp only; omega, ?_⟩
    rw [drop_cons hx]
    simp
  · have : k = xs.length := by omega
    subst this
    right
    rw [hend]; simp
/-- Each element in its place. -/
theorem loop_set {α : Type} {xs : List α} {body : List α → Int → Option ((List α × Int) ⊕ (List α))} (g : α → α)
    (hstep : ∀ (k : Nat) x acc, xs[k]? = some x → acc.length = xs.length → acc[k]? = some x → ∃ acc', body acc k = some (.inl (acc', (k : Int) + 1)) ∧ acc' = acc.set k (g x))
    (hend : ∀ acc, body acc xs.length = some (.inr acc)) : loop (t2 body) (xs, 0) = some (xs.map g) := by
  refine (loop_to (body := t2 body) (fun p => ∃ k : Nat, p.2 = k ∧ k ≤ xs.length ∧ p.1 = (xs.take k).map g ++ xs.drop k) (fun p => xs.length - p.2.toNat) (fun _ => xs.map g) ?_ (xs, 0) ⟨0, rfl, Nat.zero_le _, by simp⟩)
  rintro ⟨acc, i⟩ ⟨k, hi, hk, ha⟩
  simp only at hi ha
  subst hi
  simp only [t2_mk]
  rcases Nat.lt_or_ge k xs.length with h | h
  · obtain ⟨x, hx⟩ := get_ex h
    left
    have hlen : acc.length = xs.length := by rw [ha]; simp; omega
    have hm : (xs.take k).length = k := by simp; omega
    have hax : acc[k]? = some x := by
      rw [ha, List.getElem?_append_right (by simp; omega)]
      simp [hm, hx, show min k xs.length = k by omega]
    obtain ⟨acc', h1, h2⟩ := hstep k x acc hx hlen hax
    refine ⟨_, h1, ⟨k + 1, by push_cast; rfl, h, ?_⟩, by simp only; omega, trivial⟩
    simp only
    rw [h2, ha, drop_cons hx]
    have e1 : xs.take (k + 1) = xs.take k ++ [x] := by
      rw [List.take_succ, hx]; rfl
    rw [e1, List.map_append, List.set_append, if_neg (by simp; omega)]
    have : k - ((xs.take k).map g).length = 0 := by simp; omega
    rw [this]
    simp
  · have : k = xs.length := by omega
    subst this
    right
    rw [hend, ha]; simp
end Go.Vx
