/- A text of the proof: a verified executor of the program form, or the contracts of the functions that the law reaches. -/
import Derived.Test.YtecdkapjjhkanaaDoorPuD1
set_option linter.all false
namespace Go.Vx
open Go Go.RowKit
/-! ## Join -/
def bo (a b : Smp) : Smp := if b.Mark < a.Mark then a else if a.Mark < b.Mark then b else if a.N = b.N then a else ⟨a.At, 0, 1⟩
theorem both_s (a b : Smp) : series_both a b = some (bo a b) := by
  unfold series_both bo
  by_cases h1 : b.Mark < a.Mark <;> by_cases h2 : a.Mark < b.Mark <;> by_cases h3 : a.N = b.N <;> simp [h1, h2, h3]
theorem rboth_s (a b : Smp) : ref5_both a b = some (bo a b) := both_s a b
theorem bo_comm {a b : Smp} (h : a.At = b.At) : bo a b = bo b a := by
  obtain ⟨a1, a2, a3⟩ := a
  obtain ⟨b1, b2, b3⟩ := b
  simp only at h
  subst h
  unfold bo
  by_cases h1 : b3 < a3
  · have : ¬ a3 < b3 := by omega
    simp [h1, this]
  · by_cases h2 : a3 < b3
    · simp [h1, h2]
    · have : a3 = b3 := by omega
      subst this
      by_cases h3 : a2 = b2
      · subst h3; rfl
      · have : ¬ b2 = a2 := fun e => h3 e.symm
        simp [h3, this]
def jn : List Smp → List Smp → List Smp
  | [], ys => ys
  | x :: xs, [] => x :: xs
  | x :: xs, y :: ys => if x.At < y.At then x :: jn xs (y :: ys) else if y.At < x.At then y :: jn (x :: xs) ys else bo x y :: jn xs ys
termination_by xs ys => xs.length + ys.length
theorem jn_nil (xs : List Smp) : jn xs [] = xs := by cases xs <;> simp [jn]
theorem jn_comm : ∀ (n : Nat) (xs ys : List Smp), xs.length + ys.length ≤ n → jn xs ys = jn ys xs := by
  intro n
  induction n with
  | zero =>
    intro xs ys h
    have h1 : xs = [] := List.eq_nil_of_length_eq_zero (by omega)
    have h2 : ys = [] := List.eq_nil_of_length_eq_zero (by omega)
    subst h1 h2; rfl
  | succ n ih =>
    intro xs ys h
    cases xs with
    | nil => rw [jn_nil]; simp [jn]
    | cons x xs =>
      cases ys with
      | nil => rw [jn_nil]; simp [jn]
      | cons y ys =>
        simp only [List.length_cons] at h
        rw [jn, jn]
        by_cases h1 : x.At < y.At
        · have : ¬ y.At < x.At := by omega
          rw [if_pos h1, if_neg this, if_pos h1, ih xs (y :: ys) (by simp only [List.length_cons]; omega)]
        · by_cases h2 : y.At < x.At
          · rw [if_neg h1, if_pos h2, if_pos h2, ih (x :: xs) ys (by simp only [List.length_cons]; omega)]
          · rw [if_neg h1, if_neg h2, if_neg h2, if_neg h1, ih xs ys (by omega), bo_comm (by omega)]
theorem jn_len : ∀ (n : Nat) (xs ys : List Smp), xs.length + ys.length ≤ n → (jn xs ys).length ≤ xs.length + ys.length := by
  intro n
  induction n with
  | zero =>
    intro xs ys h
    have h1 : xs = [] := List.eq_nil_of_length_eq_zero (by omega)
    subst h1; simp [jn]
  | succ n ih =>
    intro xs ys h
    cases xs with
    | nil => simp [jn]
    | cons x xs =>
      cases ys with
      | nil => simp [jn]
      | cons y ys =>
        simp only [List.length_cons] at h
        rw [jn]
        split
        · have := ih xs (y :: ys) (by simp only [List.length_cons]; omega)
          simp only [List.length_cons] at this ⊢; omega
        · split
          · have := ih (x :: xs) ys (by simp only [List.length_cons]; omega)
            simp only [List.length_cons] at this ⊢; omega
          · have := ih xs ys (by omega)
            simp only [List.length_cons] at this ⊢; omega
theorem idx0 {α : Type} {x : α} {xs : List α} : idx (x :: xs) 0 = some x := rfl
theorem slc1 {α : Type} {x : α} {xs : List α} : slc (x :: xs) 1 ((x :: xs).length : Int) = some xs := by
  rw [slc_ex (by omega) (by simp only [List.length_cons]; omega) (Int.le_refl _)]
  simp
theorem join_loop (xs ys : List Smp) (h : xs.length + ys.length ≤ 100000) : loop (t3 series_Join_L2) ([], xs, ys) = some (jn xs ys) := by
  refine (loop_to (body := t3 series_Join_L2) (fun p => p.1.length + p.2.1.length + p.2.2.length ≤ 100000) (fun p => p.2.1.length + p.2.2.length) (fun p => p.1 ++ jn p.2.1 p.2.2) ?_ ([], xs, ys) (by simp; omega)).trans (by simp)
  rintro ⟨acc, xs, ys⟩ hl
  simp only at hl
  simp only [t3_mk]
  unfold series_Join_L2
  have e0 : i64 ((xs.length : Int) + (ys.length : Int)) = (xs.length : Int) + ys.length := i64_id (by omega) (by omega)
  rw [e0]
  have ea : ∀ z : Smp, app acc [z] = some (acc ++ [z]) := fun z => app_of (by simp; omega)
  cases xs with
  | nil =>
    cases ys with
    | nil => right; simp [jn]
    | cons y ys =>
      left
      refine ⟨(acc ++ [y], [], ys), ?_, by simp at hl ⊢; omega, by simp, by simp [jn]⟩
      have h1 : (0 : Int) < (([] : List Smp).length : Int) + ((y :: ys).length : Int) := by simp only [List.length_nil, List.length_cons]; omega
      have h2 : ¬ ((y :: ys).length : Int) = 0 := by simp only [List.length_cons]; omega
      rw [decide_eq_true h1, decide_eq_false h2]
      simp only [if_true, idx0, slc1, List.length_nil]
      simp [ea]
  | cons x xs =>
    have hx : (0 : Int) < ((x :: xs).length : Int) := by simp only [List.length_cons]; omega
    have hx0 : ¬ ((x :: xs).length : Int) = 0 := by omega
    cases ys with
    | nil =>
      left
      refine ⟨(acc ++ [x], xs, []), ?_, by simp at hl ⊢; omega, by simp, by simp [jn, jn_nil]⟩
      have h1 : (0 : Int) < ((x :: xs).length : Int) + (([] : List Smp).length : Int) := by simp only [List.length_nil]; omega
      rw [decide_eq_true h1]
      simp only [if_true, idx0, slc1, List.length_nil]
      simp [ea]
    | cons y ys =>
      left
      have h1 : (0 : Int) < ((x :: xs).length : Int) + ((y :: ys).length : Int) := by simp only [List.length_cons]; omega
      have h2 : ¬ ((y :: ys).length : Int) = 0 := by simp only [List.length_cons]; omega
      rw [decide_eq_true h1, decide_eq_false h2, decide_eq_true hx, decide_eq_false hx0]
      simp only [if_true, idx0, slc1]
      by_cases c1 : x.At < y.At
      · exact ⟨(acc ++ [x], xs, y :: ys), by simp [c1, ea], by simp at hl ⊢; omega, by simp, by simp [jn, c1]⟩
      · by_cases c2 : y.At < x.At
        · exact ⟨(acc ++ [y], x :: xs, ys), by simp [c1, c2, ea], by simp at hl ⊢; omega, by simp, by simp [jn, c1, c2]⟩
        · refine ⟨(acc ++ [bo x y], xs, ys), ?_, by simp at hl ⊢; omega, by simp; omega, by simp [jn, c1, c2]⟩
          simp only [both_s, Option.bind_some]
          simp [c1, c2, ea]
theorem rjoin_loop (a b : api_Series) (h : a.Samples.length + b.Samples.length ≤ 100000) : loop (t3 (ref5_Join_L1 a b)) ([], 0, 0) = some (jn a.Samples b.Samples) := by
  refine (loop_to (body := t3 (ref5_Join_L1 a b)) (fun p => ∃ i k : Nat, p.2 = ((i : Int), (k : Int)) ∧ i ≤ a.Samples.length ∧ k ≤ b.Samples.length ∧ p.1.length ≤ i + k) (fun p => (a.Samples.length - p.2.1.toNat) + (b.Samples.length - p.2.2.toNat)) (fun p => p.1 ++ jn (a.Samples.drop p.2.1.toNat) (b.Samples.drop p.2.2.toNat)) ?_ ([], 0, 0) ⟨0, 0, rfl, Nat.zero_le _, Nat.zero_le _, Nat.le_refl _⟩).trans (by simp)
  rintro ⟨acc, i, k⟩ ⟨i, k, he, hi, hk, ha⟩
  simp only [Prod.mk.injEq] at he ha
  obtain ⟨rfl, rfl⟩ := he
  simp only [t3_mk, Int.toNat_natCast]
  unfold ref5_Join_L1
  have ei : i64 ((i : Int) + 1) = ((i + 1 : Nat) : Int) := by show IntKind.i64.wrap _ = _; rw [i64_id (by omega) (by omega)]; push_cast; rfl
  have ek : i64 ((k : Int) + 1) = ((k + 1 : Nat) : Int) := by show IntKind.i64.wrap _ = _; rw [i64_id (by omega) (by omega)]; push_cast; rfl
  rw [ei, ek]
  have ea : ∀ z : Smp, app acc [z] = some (acc ++ [z]) := fun z => app_of (by simp; omega)
  rcases Nat.lt_or_ge i a.Samples.length with h1 | h1
  · obtain ⟨x, hx⟩ := get_ex h1
    have c1 : (i : Int) < (a.Samples.length : Int) := by omega
    have c1' : ¬ (i : Int) = (a.Samples.length : Int) := by omega
    rw [decide_eq_true c1, decide_eq_false c1']
    rcases Nat.lt_or_ge k b.Samples.length with h2 | h2
    · obtain ⟨y, hy⟩ := get_ex h2
      have c2 : (k : Int) < (b.Samples.length : Int) := by omega
      have c2' : ¬ (k : Int) = (b.Samples.length : Int) := by omega
      rw [decide_eq_true c2, decide_eq_false c2', drop_cons hx, drop_cons hy]
      simp only [idx_of hx, idx_of hy]
      left
      by_cases d1 : x.At < y.At
      · exact ⟨(acc ++ [x], ((i + 1 : Nat) : Int), (k : Int)), by simp [d1, ea], ⟨i + 1, k, rfl, h1, hk, by simp; omega⟩, by simp only [Int.toNat_natCast]; omega, by simp only [Int.toNat_natCast]; rw [drop_cons hy]; simp [jn, d1]⟩
      · by_cases d2 : y.At < x.At
        · exact ⟨(acc ++ [y], (i : Int), ((k + 1 : Nat) : Int)), by simp [d1, d2, ea], ⟨i, k + 1, rfl, hi, h2, by simp; omega⟩, by simp only [Int.toNat_natCast]; omega, by simp only [Int.toNat_natCast]; rw [drop_cons hx]; simp [jn, d1, d2]⟩
        · refine ⟨(acc ++ [bo x y], ((i + 1 : Nat) : Int), ((k + 1 : Nat) : Int)), ?_, ⟨i + 1, k + 1, rfl, h1, h2, by simp; omega⟩, by simp only [Int.toNat_natCast]; omega, by simp only [Int.toNat_natCast]; simp [jn, d1, d2]⟩
          simp only [rboth_s, Option.bind_some]
          simp [d1, d2, ea]
    · have : k = b.Samples.length := by omega
      subst this
      rw [drop_cons hx]
      simp only [idx_of hx]
      left
      exact ⟨(acc ++ [x], ((i + 1 : Nat) : Int), (b.Samples.length : Int)), by simp [ea], ⟨i + 1, _, rfl, h1, hk, by simp; omega⟩, by simp only [Int.toNat_natCast]; omega, by simp only [Int.toNat_natCast]; simp [jn, jn_nil]⟩
  · have : i = a.Samples.length := by omega
    subst this
    rcases Nat.lt_or_ge k b.Samples.length with h2 | h2
    · obtain ⟨y, hy⟩ := get_ex h2
      have c2 : (k : Int) < (b.Samples.length : Int) := by omega
      have c2' : ¬ (k : Int) = (b.Samples.length : Int) := by omega
      rw [decide_eq_true c2, decide_eq_false c2', drop_cons hy]
      simp only [idx_of hy]
      left
      exact ⟨(acc ++ [y], (a.Samples.length : Int), ((k + 1 : Nat) : Int)), by simp [ea], ⟨_, k + 1, rfl, hi, h2, by simp; omega⟩, by simp only [Int.toNat_natCast]; omega, by simp only [Int.toNat_natCast]; simp [jn]⟩
    · have : k = b.Samples.length := by omega
      subst this
      right
      simp [jn]
end Go.Vx
