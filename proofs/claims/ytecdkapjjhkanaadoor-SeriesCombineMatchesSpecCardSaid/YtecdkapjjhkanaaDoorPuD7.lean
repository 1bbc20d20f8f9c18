/- A text of the proof: a verified executor of the program form, or the contracts of the functions that the law reaches. -/
import Derived.Test.YtecdkapjjhkanaaDoorPuD6
set_option linter.all false
namespace Go.Vx
open Go Go.RowKit
/-! ## Steepest -/
def run {σ : Type} (f : Nat → σ → σ) : Nat → Nat → σ → σ
  | 0, _, st => st
  | m + 1, k, st => run f m (k + 1) (f k st)
theorem loop_run {σ S ρ : Type} {body : S → Option (S ⊕ ρ)} (n : Nat) (I : σ → Prop) (f : Nat → σ → σ) (enc : σ → Nat → S) (out : σ → ρ) (k0 : Nat)
    (hstep : ∀ k st, k0 ≤ k → k < n → I st → body (enc st k) = some (.inl (enc (f k st) (k + 1))) ∧ I (f k st)) (hend : ∀ st, I st → body (enc st n) = some (.inr (out st)))
    (st0 : σ) (h0 : k0 ≤ n) (hI : I st0) : loop body (enc st0 k0) = some (out (run f (n - k0) k0 st0)) := by
  have key : ∀ m k st, k + m = n → k0 ≤ k → I st → loop body (enc st k) = some (out (run f m k st)) := by
    intro m
    induction m with
    | zero =>
      intro k st hk _ hI
      have : k = n := by omega
      subst this
      rw [loop_eq, hend st hI]; rfl
    | succ m ih =>
      intro k st hk hk0 hI
      obtain ⟨h1, h2⟩ := hstep k st hk0 (by omega) hI
      rw [loop_eq, h1]
      exact ih (k + 1) (f k st) (by omega) (by omega) h2
  exact key (n - k0) k0 st0 (by omega) (Nat.le_refl _) hI
/-- The places of those that p names. -/
def filtI {α : Type} (p : α → Bool) : Nat → List α → List Int
  | _, [] => []
  | k, x :: tl => if p x then (k : Int) :: filtI p (k + 1) tl else filtI p (k + 1) tl
theorem filtI_len {α : Type} (p : α → Bool) : ∀ (k : Nat) (xs : List α), (filtI p k xs).length ≤ xs.length
  | _, [] => Nat.le_refl _
  | k, x :: tl => by
    have := filtI_len p (k + 1) tl
    simp only [filtI]
    split <;> simp only [List.length_cons] <;> omega
theorem filtI_get {α : Type} (p : α → Bool) : ∀ (k : Nat) (xs : List α) (j : Nat) (i : Int), (filtI p k xs)[j]? = some i → ∃ m : Nat, i = ((k + m : Nat) : Int) ∧ ∃ x, xs[m]? = some x ∧ p x = true
  | _, [], j, i, h => by simp [filtI] at h
  | k, x :: tl, j, i, h => by
    simp only [filtI] at h
    split at h
    · rename_i hp
      cases j with
      | zero => simp only [List.getElem?_cons_zero, Option.some.injEq] at h; exact ⟨0, by rw [← h]; rfl, x, rfl, hp⟩
      | succ j =>
        obtain ⟨m, h1, y, h2, h3⟩ := filtI_get p (k + 1) tl j i (by simpa using h)
        exact ⟨m + 1, by rw [h1]; congr 1; omega, y, by simpa using h2, h3⟩
    · obtain ⟨m, h1, y, h2, h3⟩ := filtI_get p (k + 1) tl j i h
      exact ⟨m + 1, by rw [h1]; congr 1; omega, y, by simpa using h2, h3⟩
theorem filtI_up {α : Type} (p : α → Bool) : ∀ (k : Nat) (xs : List α) (j : Nat) (a b : Int), (filtI p k xs)[j]? = some a → (filtI p k xs)[j + 1]? = some b → a < b
  | _, [], j, a, b, h, _ => by simp [filtI] at h
  | k, x :: tl, j, a, b, h, h' => by
    simp only [filtI] at h h'
    split at h
    · rename_i hp
      rw [if_pos hp] at h'
      cases j with
      | zero =>
        simp only [List.getElem?_cons_zero, Option.some.injEq] at h
        obtain ⟨m, h1, _⟩ := filtI_get p (k + 1) tl 0 b (by simpa using h')
        rw [← h, h1]
        push_cast; omega
      | succ j => exact filtI_up p (k + 1) tl j a b (by simpa using h) (by simpa using h')
    · rename_i hp
      rw [if_neg hp] at h'
      exact filtI_up p (k + 1) tl j a b h h'
theorem loop_filt {α : Type} {xs : List α} {body : List Int → Int → Option ((List Int × Int) ⊕ (List Int))} (p : α → Bool)
    (hstep : ∀ (k : Nat) x acc, xs[k]? = some x → acc.length ≤ k → body acc k = some (.inl (if p x then acc ++ [(k : Int)] else acc, (k : Int) + 1)))
    (hend : ∀ acc, body acc xs.length = some (.inr acc)) : loop (t2 body) ([], 0) = some (filtI p 0 xs) := by
  refine (loop_to (body := t2 body) (fun q => ∃ k : Nat, q.2 = k ∧ k ≤ xs.length ∧ q.1.length ≤ k) (fun q => xs.length - q.2.toNat) (fun q => q.1 ++ filtI p q.2.toNat (xs.drop q.2.toNat)) ?_ ([], 0) ⟨0, rfl, Nat.zero_le _, Nat.le_refl _⟩).trans (by simp)
  rintro ⟨acc, i⟩ ⟨k, hi, hk, ha⟩
  simp only at hi ha
  subst hi
  simp only [t2_mk, Int.toNat_natCast]
  rcases Nat.lt_or_ge k xs.length with h | h
  · obtain ⟨x, hx⟩ := get_ex h
    left
    refine ⟨_, hstep k x acc hx ha, ⟨k + 1, by push_cast; rfl, h, by simp only; cases p x <;> simp <;> omega⟩, by simp only; omega, ?_⟩
    have : ((k : Int) + 1).toNat = k + 1 := by omega
    simp only [this]
    rw [drop_cons hx]
    simp only [filtI]
    cases p x <;> simp
  · have : k = xs.length := by omega
    subst this
    right
    rw [hend]; simp [filtI]
def sol (x : Smp) : Bool := decide (3 ≤ x.Mark)
theorem solids_s {s : api_Series} (hs : SerOK s) : series_solids s = some (filtI sol 0 s.Samples) := by
  have hl := hs.len
  unfold series_solids
  rw [loop_filt (xs := s.Samples) (body := series_solids_L1 s) sol (fun k x acc hx ha => ?_) (fun acc => by simp [series_solids_L1])]
  · rfl
  · have hlt := lt_of hx
    have e1 : i64 ((k : Int) + 1) = (k : Int) + 1 := i64_id (by omega) (by omega)
    simp only [series_solids_L1, hlt, decide_true, if_true, idx_of hx, Option.bind_some, e1, series_solid, sol]
    rw [app_of (by simp; omega)]
    by_cases h : 3 ≤ x.Mark <;> simp [h]
theorem rsolids_s {s : api_Series} (hs : SerOK s) : ref5_Solids s = some (filtI sol 0 s.Samples) := by
  have hl := hs.len
  unfold ref5_Solids
  rw [loop_filt (xs := s.Samples) (body := ref5_Solids_L1 s) sol (fun k x acc hx ha => ?_) (fun acc => by simp [ref5_Solids_L1])]
  · rfl
  · have hlt := lt_of hx
    have e1 : i64 ((k : Int) + 1) = (k : Int) + 1 := i64_id (by omega) (by omega)
    simp only [ref5_Solids_L1, hlt, decide_true, if_true, idx_of hx, Option.bind_some, e1, ref5_solid, sol]
    rw [app_of (by simp; omega)]
    by_cases h : 3 ≤ x.Mark <;> simp [h]
/-! ### Wide products -/
theorem shr32 (x : Int) : shr .u64 x 32 = some (x.fdiv (2 ^ 32)) := by simp [shr, IntKind.bits]
theorem mul64_ex (x y : Int) : ∃ h l, bits_Mul64 x y = some (h, l) ∧ (0 ≤ h ∧ h < 18446744073709551616) ∧ (0 ≤ l ∧ l < 18446744073709551616) := by
  unfold bits_Mul64
  simp only [shr32, Option.bind_some]
  exact ⟨_, _, rfl, u64_lo _, u64_lo _⟩
theorem steeper_ex (a b c d : Int) (ha : 0 ≤ a) (hc : 0 ≤ c) : ∃ v, series_steeper a b c d = some v ∧ ref5_steeper a b c d = some v := by
  obtain ⟨h1, l1, e1, ⟨r1, r2⟩, r3, r4⟩ := mul64_ex (u64 a) (u64 d)
  obtain ⟨h2, l2, e2, ⟨q1, q2⟩, q3, q4⟩ := mul64_ex (u64 c) (u64 b)
  have ha' : ¬ a < 0 := by omega
  have hc' : ¬ c < 0 := by omega
  refine ⟨_, ?_, by unfold ref5_steeper ref5_product; simp only [ha', hc', decide_false, Bool.false_eq_true, if_false, Option.bind_some, t1_mk, e1, e2]; rfl⟩
  have f1 : bits_Add64 0 l1 0 = some (l1, 0) := by
    unfold bits_Add64
    rw [if_pos (by omega)]
    congr 2 <;> omega
  have f2 : bits_Add64 0 l2 0 = some (l2, 0) := by
    unfold bits_Add64
    rw [if_pos (by omega)]
    congr 2 <;> omega
  have g1 : u64 (h1 + 0) = h1 := by rw [Int.add_zero]; exact u64_id r1 r2
  have g1' : u64 (0 + h1) = h1 := by rw [Int.zero_add]; exact u64_id r1 r2
  have g2 : u64 (h2 + 0) = h2 := by rw [Int.add_zero]; exact u64_id q1 q2
  have g2' : u64 (0 + h2) = h2 := by rw [Int.zero_add]; exact u64_id q1 q2
  unfold series_steeper series_wide_addProduct series_wide_less
  simp only [e1, e2, Option.bind_some, f1, f2, g1, g1', g2, g2']
  have : decide (h2 = h1) = decide (h1 = h2) := by rw [Bool.eq_iff_iff]; simp [eq_comm]
  rw [this]
end Go.Vx
