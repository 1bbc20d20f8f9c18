/- A text of the proof: a verified executor of the program form, or the contracts of the functions that the law reaches. -/
import Derived.Test.YtncoekfjpkfcdaaShLib
set_option linter.all false
namespace Go.Vx
open Go Go.RowKit
theorem i64_id {z : Int} (h1 : -9223372036854775808 ≤ z) (h2 : z ≤ 9223372036854775807) : IntKind.i64.wrap z = z := w64 h1 h2
@[simp] theorem gd_t {α : Type} {d : α} {o : Option α} : gd true d o = o := rfl
@[simp] theorem gd_f {α : Type} {d : α} {o : Option α} : gd false d o = some d := rfl
@[simp] theorem gd_tt {α : Type} {d : α} {o : Option α} : gd (true == true) d o = o := rfl
theorem idx_of {α : Type} {xs : List α} {k : Nat} {x : α} (h : xs[k]? = some x) : idx xs (k : Int) = some x := by simp [idx, h]
theorem lt_of {α : Type} {xs : List α} {k : Nat} {x : α} (h : xs[k]? = some x) : (k : Int) < (xs.length : Int) := by
  have := (List.getElem?_eq_some_iff.1 h).1; omega
theorem get_ex {α : Type} {xs : List α} {k : Nat} (h : k < xs.length) : ∃ x, xs[k]? = some x := ⟨xs[k], List.getElem?_eq_getElem h⟩
theorem drop_cons {α : Type} {xs : List α} {k : Nat} {x : α} (h : xs[k]? = some x) : xs.drop k = x :: xs.drop (k + 1) := by
  obtain ⟨hk, rfl⟩ := List.getElem?_eq_some_iff.1 h
  exact List.drop_eq_getElem_cons hk
theorem app_of {α : Type} {xs ys : List α} (h : xs.length + ys.length ≤ 4294967296) : app xs ys = some (xs ++ ys) := by simp [app, h]

section loops
variable {σ ρ : Type}
theorem loop_to {body : σ → Option (σ ⊕ ρ)} (I : σ → Prop) (μ : σ → Nat) (F : σ → ρ) (step : ∀ s, I s → (∃ s', body s = some (.inl s') ∧ I s' ∧ μ s' < μ s ∧ F s = F s') ∨ body s = some (.inr (F s))) :
    ∀ s, I s → loop body s = some (F s) := by
  intro s hs
  obtain ⟨r, h1, h2⟩ := loop_inv (body := body) (fun s' => I s' ∧ F s = F s') μ (fun r => r = F s) (fun s' ⟨h1, h2⟩ => by
    rcases step s' h1 with ⟨s2, e1, e2, e3, e4⟩ | e
    · exact .inl ⟨s2, e1, ⟨e2, h2.trans e4⟩, e3⟩
    · exact .inr ⟨_, e, h2.symm⟩) s ⟨hs, rfl⟩
  rw [h1, h2]
variable {α : Type} {xs : List α}
theorem loop_ix1 {body : Int → Option (Int ⊕ ρ)} (F : Nat → ρ)
    (hstep : ∀ (k : Nat) x, xs[k]? = some x → (body k = some (.inl ((k : Int) + 1)) ∧ F k = F (k + 1)) ∨ body k = some (.inr (F k)))
    (hend : body xs.length = some (.inr (F xs.length))) : loop (t1 body) 0 = some (F 0) := by
  refine loop_to (body := t1 body) (fun i => ∃ k : Nat, i = k ∧ k ≤ xs.length) (fun i => xs.length - i.toNat) (fun i => F i.toNat) ?_ 0 ⟨0, rfl, Nat.zero_le _⟩
  rintro i ⟨k, rfl, hk⟩
  simp only [Int.toNat_natCast, t1_mk]
  rcases Nat.lt_or_ge k xs.length with h | h
  · obtain ⟨x, hx⟩ := get_ex h
    rcases hstep k x hx with ⟨h1, h2⟩ | h1
    · exact .inl ⟨_, h1, ⟨k + 1, by push_cast; rfl, h⟩, by omega, by rw [h2]; rfl⟩
    · exact .inr h1
  · have : k = xs.length := by omega
    subst this
    exact .inr hend
theorem loop_ix2 {body : σ → Int → Option ((σ × Int) ⊕ ρ)} (I : σ → Nat → Prop) (F : σ → Nat → ρ)
    (hstep : ∀ a (k : Nat) x, I a k → xs[k]? = some x → (∃ a', body a k = some (.inl (a', (k : Int) + 1)) ∧ I a' (k + 1) ∧ F a k = F a' (k + 1)) ∨ body a k = some (.inr (F a k)))
    (hend : ∀ a, I a xs.length → body a xs.length = some (.inr (F a xs.length))) {a0 : σ} (h0 : I a0 0) : loop (t2 body) (a0, 0) = some (F a0 0) := by
  refine loop_to (body := t2 body) (fun p => ∃ k : Nat, p.2 = k ∧ k ≤ xs.length ∧ I p.1 k) (fun p => xs.length - p.2.toNat) (fun p => F p.1 p.2.toNat) ?_ (a0, 0) ⟨0, rfl, Nat.zero_le _, h0⟩
  rintro ⟨a, i⟩ ⟨k, hi, hk, hI⟩
  simp only at hi hI
  subst hi
  simp only [Int.toNat_natCast, t2_mk]
  rcases Nat.lt_or_ge k xs.length with h | h
  · obtain ⟨x, hx⟩ := get_ex h
    rcases hstep a k x hI hx with ⟨a', h1, h2, h3⟩ | h1
    · exact .inl ⟨_, h1, ⟨k + 1, by push_cast; rfl, h, h2⟩, by simp only; omega, by rw [h3]; rfl⟩
    · exact .inr h1
  · have : k = xs.length := by omega
    subst this
    exact .inr (hend a hI)
end loops
end Go.Vx

namespace Go.Vx
open Go Go.RowKit
section err
variable {α ε : Type}
def elimO {ρ : Type} (A : ε → ρ) (Z : ρ) : Option ε → ρ
  | some e => A e
  | none => Z
@[simp] theorem elimO_some {ρ : Type} (A : ε → ρ) (Z : ρ) (e : ε) : elimO A Z (some e) = A e := rfl
@[simp] theorem elimO_none {ρ : Type} (A : ε → ρ) (Z : ρ) : elimO A Z none = Z := rfl
def findL (g : α → Option ε) : List α → Option ε
  | [] => none
  | x :: tl => match g x with | some e => some e | none => findL g tl
theorem loop_find {ρ : Type} {xs : List α} (g : α → Option ε) (A : ε → ρ) (Z : ρ) {body : Int → Option (Int ⊕ ρ)}
    (h : ∀ (k : Nat) x, xs[k]? = some x → body k = match g x with | some e => some (.inr (A e)) | none => some (.inl ((k : Int) + 1)))
    (hend : body xs.length = some (.inr Z)) : loop (t1 body) 0 = some (elimO A Z (findL g xs)) := by
  refine loop_ix1 (xs := xs) (fun k => elimO A Z (findL g (xs.drop k))) (fun k x hx => ?_) ?_
  · rw [h k x hx, drop_cons hx]
    simp only [findL]
    cases hg : g x with
    | some e => right; rfl
    | none => left; exact ⟨rfl, rfl⟩
  · rw [hend]; simp [findL]
end err
theorem loop_map {α β : Type} {xs : List α} {body : List β → Int → Option ((List β × Int) ⊕ (List β))} (g : α → β)
    (hstep : ∀ (k : Nat) x acc, xs[k]? = some x → acc.length = k → body acc k = some (.inl (acc ++ [g x], (k : Int) + 1)))
    (hend : ∀ acc, body acc xs.length = some (.inr acc)) : loop (t2 body) ([], 0) = some (xs.map g) := by
  refine (loop_to (body := t2 body) (fun p => ∃ k : Nat, p.2 = k ∧ k ≤ xs.length ∧ p.1.length = k) (fun p => xs.length - p.2.toNat) (fun p => p.1 ++ (xs.drop p.2.toNat).map g) ?_ ([], 0) ⟨0, rfl, Nat.zero_le _, rfl⟩).trans (by simp)
  rintro ⟨acc, i⟩ ⟨k, hi, hk, ha⟩
  simp only at hi ha
  subst hi
  simp only [t2_mk, Int.toNat_natCast]
  rcases Nat.lt_or_ge k xs.length with h | h
  · obtain ⟨x, hx⟩ := get_ex h
    left
    refine ⟨_, hstep k x acc hx ha, ⟨k + 1, by push_cast; rfl, h, by simp [ha]⟩, by simp only; omega, ?_⟩
    rw [drop_cons hx]
    simp
  · have : k = xs.length := by omega
    subst this
    right
    rw [hend]; simp
end Go.Vx

namespace Go.Vx
open Go Go.RowKit
section
variable {α ε : Type}
def findI (g : Nat → α → Option ε) : Nat → List α → Option ε
  | _, [] => none
  | k, x :: tl => match g k x with | some e => some e | none => findI g (k + 1) tl
theorem loop_findI {ρ : Type} {xs : List α} (g : Nat → α → Option ε) (A : ε → ρ) (Z : ρ) {body : Int → Option (Int ⊕ ρ)}
    (h : ∀ (k : Nat) x, xs[k]? = some x → body k = elimO (fun e => some (.inr (A e))) (some (.inl ((k : Int) + 1))) (g k x))
    (hend : body xs.length = some (.inr Z)) : loop (t1 body) 0 = some (elimO A Z (findI g 0 xs)) := by
  refine loop_ix1 (xs := xs) (fun k => elimO A Z (findI g k (xs.drop k))) (fun k x hx => ?_) ?_
  · rw [h k x hx, drop_cons hx]
    simp only [findI]
    cases hg : g k x with
    | some e => right; rfl
    | none => left; exact ⟨rfl, rfl⟩
  · rw [hend]; simp [findI]
theorem findI_congr {g g' : Nat → α → Option ε} : ∀ (k : Nat) (xs : List α), (∀ (j : Nat) x, xs[j]? = some x → g (k + j) x = g' (k + j) x) → findI g k xs = findI g' k xs
  | _, [], _ => rfl
  | k, x :: tl, h => by
    have h0 := h 0 x rfl
    rw [Nat.add_zero] at h0
    have ih := findI_congr (g := g) (g' := g') (k + 1) tl fun j y hy => by
      have := h (j + 1) y (by simpa using hy)
      rwa [show k + (j + 1) = k + 1 + j by omega] at this
    simp only [findI, h0]
    rw [ih]
theorem findI_none {g : Nat → α → Option ε} : ∀ (k : Nat) (xs : List α), findI g k xs = none → ∀ (j : Nat) x, xs[j]? = some x → g (k + j) x = none
  | _, [], _, j, x, hx => by simp at hx
  | k, y :: tl, h, j, x, hx => by
    simp only [findI] at h
    cases hy : g k y with
    | some e => rw [hy] at h; cases h
    | none =>
      rw [hy] at h
      cases j with
      | zero => simp at hx; subst hx; simpa using hy
      | succ j =>
        have := findI_none (k + 1) tl h j x (by simpa using hx)
        rwa [show k + 1 + j = k + (j + 1) by omega] at this
theorem findI_all {p : α → Bool} : ∀ (k : Nat) (xs : List α), findI (fun _ x => if p x then none else some ()) k xs = if xs.all p then none else some ()
  | _, [] => rfl
  | k, x :: tl => by
    have ih := findI_all (p := p) (k + 1) tl
    simp only [findI, List.all_cons]
    by_cases hp : p x = true
    · simp only [hp, if_true, Bool.true_and]; exact ih
    · have hp' : p x = false := by simpa using hp
      simp [hp']
end
theorem i64K {k : Nat} {n : Nat} (h : k < n) (hn : n ≤ 9223372036854775807) : i64 ((k : Int) + 1) = (k : Int) + 1 := i64_id (by omega) (by omega)
theorem sidx_of {s : Str} {k : Nat} {b : UInt8} (h : s[k]? = some b) : sidx s (k : Int) = some ((b.toNat : Nat) : Int) := by simp [sidx, h]
def lcI (z : Int) : Bool := decide (97 ≤ z) && decide (z ≤ 122)
def nbI (z : Int) : Bool := (lcI z || (decide (48 ≤ z) && decide (z ≤ 57))) || decide (z = 45)
def lcB (b : UInt8) : Bool := lcI (b.toNat : Int)
def nbB (b : UInt8) : Bool := nbI (b.toNat : Int)
theorem lc_nb {z : Int} (h : lcI z = true) : nbI z = true := by simp [nbI, h]
theorem loop_build {α : Type} {body : List α → Int → Option ((List α × Int) ⊕ (List α))} (n : Nat) (g : Nat → α)
    (hstep : ∀ (k : Nat) acc, k < n → acc.length = k → body acc k = some (.inl (acc ++ [g k], (k : Int) + 1)))
    (hend : ∀ acc, body acc n = some (.inr acc)) : loop (t2 body) ([], 0) = some ((List.range n).map g) := by
  have := loop_to (body := t2 body) (fun p => ∃ k : Nat, p.2 = k ∧ k ≤ n ∧ p.1 = (List.range k).map g) (fun p => n - p.2.toNat) (fun _ => (List.range n).map g) (by
    rintro ⟨acc, i⟩ ⟨k, hi, hk, ha⟩
    simp only at hi ha
    subst hi ha
    simp only [t2_mk]
    rcases Nat.lt_or_ge k n with h | h
    · left
      refine ⟨_, hstep k _ h (by simp), ⟨k + 1, by push_cast; rfl, h, by simp [List.range_succ]⟩, by simp only; omega, trivial⟩
    · have : k = n := by omega
      subst this
      exact .inr (hend _)) ([], 0) ⟨0, rfl, Nat.zero_le _, rfl⟩
  exact this
def run {σ : Type} (f : Nat → σ → σ) : Nat → Nat → σ → σ
  | 0, _, st => st
  | m + 1, k, st => run f m (k + 1) (f k st)
end Go.Vx

namespace Go.Vx
open Go Go.RowKit

section
variable {K V : Type} {eq : K → K → Bool}
def mkeys (m : List (K × V)) : List K := m.map (·.1)
theorem mget_some (he : ∀ a b, eq a b = true ↔ a = b) {m : List (K × V)} {k : K} : (mget eq m k).isSome = true ↔ k ∈ mkeys m := by
  unfold mget mkeys
  rw [Option.isSome_map, List.find?_isSome]
  simp only [List.mem_map]
  constructor
  · rintro ⟨p, hp, h⟩; exact ⟨p, hp, ((he _ _).1 h).symm⟩
  · rintro ⟨p, hp, rfl⟩; exact ⟨p, hp, (he _ _).2 rfl⟩
theorem mget_none (he : ∀ a b, eq a b = true ↔ a = b) {m : List (K × V)} {k : K} (h : k ∉ mkeys m) : mget eq m k = none := by
  cases hm : mget eq m k with
  | none => rfl
  | some v => exact absurd ((mget_some he).1 (by rw [hm]; rfl)) h
theorem mput_new (he : ∀ a b, eq a b = true ↔ a = b) {m : List (K × V)} {k : K} {v : V} (h : k ∉ mkeys m) : mput eq m k v = m ++ [(k, v)] := by
  unfold mput
  have : (m.findIdx? fun p => eq k p.1) = none := by
    rw [List.findIdx?_eq_none_iff]
    intro p hp
    cases hq : eq k p.1 with
    | false => rfl
    | true => exact absurd (List.mem_map.2 ⟨p, hp, ((he _ _).1 hq).symm⟩) h
  rw [this]
end
theorem kqV_iff {n : Nat} (a b : Vector Int n) : kqV a b = true ↔ a = b := by simp [kqV]
end Go.Vx
