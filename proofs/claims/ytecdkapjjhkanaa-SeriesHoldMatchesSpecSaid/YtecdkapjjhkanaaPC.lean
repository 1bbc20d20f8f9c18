/- A text of the proof: a verified executor of the program form, or the contracts of the functions that the law reaches. -/
import Derived.Test.YtecdkapjjhkanaaPB
set_option linter.all false
namespace Go.Vx
open Go Go.RowKit
/-! ## Resample -/
theorem loop_build {α : Type} {body : List α → Int → Option ((List α × Int) ⊕ (List α))} (n : Nat) (g : Nat → α)
    (hstep : ∀ (k : Nat) acc, k < n → acc.length = k → body acc k = some (.inl (acc ++ [g k], (k : Int) + 1)))
    (hend : ∀ acc, body acc n = some (.inr acc)) : loop (t2 body) ([], 0) = some ((List.range n).map g) := by
  have := loop_to (body := t2 body) (fun p => ∃ k : Nat, p.2 = k ∧ k ≤ n ∧ p.1 = (List.range k).map g) (fun p => n - p.2.toNat) (fun _ => (List.range n).map g) (by
    rintro ⟨acc, i⟩ ⟨k, hi, hk, ha⟩
    simp only at hi ha
    subst hi ha
    simp only [t2_mk]
    rcases Nat.lt_or_ge k n with h | h
    · left
      refine ⟨_, hstep k _ h (by simp), ⟨k + 1, by push_cast; rfl, h, by simp [List.range_succ]⟩, by simp only; omega, trivial⟩
    · have : k = n := by omega
      subst this
      exact .inr (hend _)) ([], 0) ⟨0, rfl, Nat.zero_le _, rfl⟩
  exact this
def resG (s : api_Series) (from_ step long : Int) (k : Nat) : Smp := ⟨from_ + k * step, (outH (heldAt s.Samples (from_ + k * step) long)).1.N, (outH (heldAt s.Samples (from_ + k * step) long)).1.Mark⟩
def resOK (from_ step count long : Int) : Bool := wi from_ 0 1099511627776 && wi long 0 1099511627776 && wi step 1 1099511627776 && wi count 0 20000 && (decide (count ≤ 0) || decide (from_ + (count - 1) * step ≤ 1099511627776))
def outRes (s : api_Series) (from_ step count long : Int) : api_Series × Int :=
  if (chk s).2 ≠ 0 then (⟨0, []⟩, (chk s).2) else if resOK from_ step count long then (⟨s.Den, (List.range count.toNat).map (resG s from_ step long)⟩, 0) else (⟨0, []⟩, 9)
theorem mul_in {a b A B : Int} (h0 : 0 ≤ a) (h1 : a ≤ A) (h2 : 0 ≤ b) (h3 : b ≤ B) : 0 ≤ a * b ∧ a * b ≤ A * B :=
  ⟨Int.mul_nonneg h0 h2, Int.mul_le_mul h1 h3 h2 (by omega)⟩
theorem res_bd {from_ step count long : Int} (h : resOK from_ step count long = true) (k : Nat) (hk : (k : Int) < count) :
    (0 ≤ k * step ∧ k * step ≤ 20000 * 1099511627776) ∧ 0 ≤ from_ + k * step ∧ from_ + k * step ≤ 1099511627776 := by
  simp only [resOK, Bool.and_eq_true, wi_iff, Bool.or_eq_true, decide_eq_true_iff] at h
  obtain ⟨⟨⟨⟨hf, hl⟩, hs⟩, hc⟩, hlast⟩ := h
  have h1 := mul_in (a := k) (b := step) (A := 20000) (B := 1099511627776) (by omega) (by omega) (by omega) (by omega)
  have h2 : (k : Int) * step ≤ (count - 1) * step := Int.mul_le_mul_of_nonneg_right (by omega) (by omega)
  exact ⟨h1, by omega, by omega⟩
theorem res_loop {body : List Smp → Int → Option ((List Smp × Int) ⊕ (List Smp))} {f : api_Series → Int → Int → Option (Smp × Bool)} {s : api_Series} {from_ step count long : Int} (hs : SerOK s)
    (hf : ∀ t long, 0 ≤ t ∧ t ≤ 1099511627776 → f s t long = some (outH (heldAt s.Samples t long))) (h : resOK from_ step count long = true)
    (hb : ∀ acc i, body acc i = if (decide (i < count)) = true then
      (f s (IntKind.i64.wrap (from_ + (IntKind.i64.wrap (i * step)))) long).bind fun y6 =>
      (app acc ([(api_Sample.mk (IntKind.i64.wrap (from_ + (IntKind.i64.wrap (i * step)))) y6.1.N y6.1.Mark)] : List api_Sample)).bind fun l =>
      some (.inl (l, (IntKind.i64.wrap (i + 1))))
      else some (.inr acc)) : loop (t2 body) ([], 0) = some ((List.range count.toNat).map (resG s from_ step long)) := by
  have hc : 0 ≤ count ∧ count ≤ 20000 := by
    simp only [resOK, Bool.and_eq_true, wi_iff] at h; exact h.1.2
  refine loop_build _ _ (fun k acc hk ha => ?_) (fun acc => ?_)
  · have hk' : (k : Int) < count := by omega
    obtain ⟨⟨h1, h2⟩, h3, h4⟩ := res_bd h k hk'
    have e1 : IntKind.i64.wrap ((k : Int) * step) = k * step := i64_id (by omega) (by omega)
    have e2 : IntKind.i64.wrap (from_ + (k : Int) * step) = from_ + k * step := i64_id (by omega) (by omega)
    have e3 : IntKind.i64.wrap ((k : Int) + 1) = (k : Int) + 1 := i64_id (by omega) (by omega)
    rw [hb]
    simp only [hk', decide_true, if_true, e1, e2, e3, hf _ long ⟨h3, h4⟩, Option.bind_some]
    rw [app_of (by simp; omega)]
    rfl
  · rw [hb]
    have : ¬ ((count.toNat : Nat) : Int) < count := by omega
    rw [if_neg (by simpa using this)]
theorem res_last {from_ step count : Int} (hf : wi from_ 0 1099511627776 = true) (hs : wi step 1 1099511627776 = true) (hc : wi count 0 20000 = true) :
    ((decide (0 < count)) && (decide (1099511627776 < (IntKind.i64.wrap (from_ + (IntKind.i64.wrap ((IntKind.i64.wrap (count - 1)) * step))))))) = !(decide (count ≤ 0) || decide (from_ + (count - 1) * step ≤ 1099511627776)) := by
  simp only [wi_iff] at hf hs hc
  have e0 : IntKind.i64.wrap (count - 1) = count - 1 := i64_id (by omega) (by omega)
  by_cases h : 0 < count
  · have h1 := mul_in (a := count - 1) (b := step) (A := 20000) (B := 1099511627776) (by omega) (by omega) (by omega) (by omega)
    have e1 : IntKind.i64.wrap ((count - 1) * step) = (count - 1) * step := i64_id (by omega) (by omega)
    have e2 : IntKind.i64.wrap (from_ + (count - 1) * step) = from_ + (count - 1) * step := i64_id (by omega) (by omega)
    have h2 : ¬ count ≤ 0 := by omega
    simp only [e0, e1, e2, h, h2, decide_true, decide_false, Bool.true_and, Bool.false_or]
    rw [Bool.eq_iff_iff]; simp [Int.not_le]
  · have h2 : count ≤ 0 := by omega
    simp [h, h2]
theorem Resample_s (s : api_Series) (from_ step count long : Int) : series_Resample s from_ step count long = some (outRes s from_ step count long) := by
  simp only [series_Resample, Check_s, within_s, Option.bind_some, outRes]
  by_cases h0 : (chk s).2 = 0
  · cases h1 : wi from_ 0 1099511627776 with
    | false => simp [h0, resOK, h1]
    | true => cases h2 : wi long 0 1099511627776 with
      | false => simp [h0, resOK, h1, h2]
      | true => cases h3 : wi step 1 1099511627776 with
        | false => simp [h0, resOK, h1, h2, h3]
        | true => cases h4 : wi count 0 20000 with
          | false => simp [h0, resOK, h1, h2, h3, h4]
          | true =>
            have hl := res_last h1 h3 h4
            cases h5 : (decide (count ≤ 0) || decide (from_ + (count - 1) * step ≤ 1099511627776)) with
            | false => rw [h5] at hl; simp [h0, resOK, h1, h2, h3, h4, h5, hl]
            | true =>
              rw [h5] at hl
              have hr : resOK from_ step count long = true := by simp [resOK, h1, h2, h3, h4, h5]
              have := res_loop (body := series_Resample_L1 s from_ step count long) (f := series_hold) (ser_ok h0) (fun t l ht => hold_s (ser_ok h0) t l ht) hr (fun acc i => rfl)
              simp [h0, hl, this, hr]
  · simp [h0]
theorem rResample_s (s : api_Series) (from_ step count long : Int) : ref5_Resample s from_ step count long = some (outRes s from_ step count long) := by
  simp only [ref5_Resample, rCheck_s, outside_s, Option.bind_some, outRes]
  by_cases h0 : (chk s).2 = 0
  · cases h1 : wi from_ 0 1099511627776 with
    | false => simp [h0, resOK, h1]
    | true => cases h2 : wi long 0 1099511627776 with
      | false => simp [h0, resOK, h1, h2]
      | true => cases h3 : wi step 1 1099511627776 with
        | false => simp [h0, resOK, h1, h2, h3]
        | true => cases h4 : wi count 0 20000 with
          | false => simp [h0, resOK, h1, h2, h3, h4]
          | true =>
            have hl := res_last h1 h3 h4
            cases h5 : (decide (count ≤ 0) || decide (from_ + (count - 1) * step ≤ 1099511627776)) with
            | false => rw [h5] at hl; simp [h0, resOK, h1, h2, h3, h4, h5, hl]
            | true =>
              rw [h5] at hl
              have hr : resOK from_ step count long = true := by simp [resOK, h1, h2, h3, h4, h5]
              have := res_loop (body := ref5_Resample_L1 s from_ step count long) (f := ref5_Held) (ser_ok h0) (fun t l ht => rHeld_s (ser_ok h0) t l ht) hr (fun acc i => rfl)
              simp [h0, hl, this, hr]
  · simp [h0]
theorem law_Resample (s : api_Series) (from_ step count long : Int) : law5_SeriesResampleMatchesSpec s from_ step count long = some true := by
  simp only [law5_SeriesResampleMatchesSpec, Resample_s, rResample_s, Option.bind_some]
  obtain ⟨t, ht⟩ := told_t (outRes s from_ step count long).1 (outRes s from_ step count long).2 (by
    unfold outRes
    split
    · simp
    · split
      · rename_i h
        simp only [resOK, Bool.and_eq_true, wi_iff] at h
        simp; omega
      · simp)
  simp [ht, holds_s]
end Go.Vx

namespace Go.Vx
open Go Go.RowKit
/-! ## Join -/
def bo (a b : Smp) : Smp := if b.Mark < a.Mark then a else if a.Mark < b.Mark then b else if a.N = b.N then a else ⟨a.At, 0, 1⟩
theorem both_s (a b : Smp) : series_both a b = some (bo a b) := by
  unfold series_both bo
  by_cases h1 : b.Mark < a.Mark <;> by_cases h2 : a.Mark < b.Mark <;> by_cases h3 : a.N = b.N <;> simp [h1, h2, h3]
theorem rboth_s (a b : Smp) : ref5_both a b = some (bo a b) := both_s a b
theorem bo_comm {a b : Smp} (h : a.At = b.At) : bo a b = bo b a := by
  obtain ⟨a1, a2, a3⟩ := a
  obtain ⟨b1, b2, b3⟩ := b
  simp only at h
  subst h
  unfold bo
  by_cases h1 : b3 < a3
  · have : ¬ a3 < b3 := by omega
    simp [h1, this]
  · by_cases h2 : a3 < b3
    · simp [h1, h2]
    · have : a3 = b3 := by omega
      subst this
      by_cases h3 : a2 = b2
      · subst h3; rfl
      · have : ¬ b2 = a2 := fun e => h3 e.symm
        simp [h3, this]
def jn : List Smp → List Smp → List Smp
  | [], ys => ys
  | x :: xs, [] => x :: xs
  | x :: xs, y :: ys => if x.At < y.At then x :: jn xs (y :: ys) else if y.At < x.At then y :: jn (x :: xs) ys else bo x y :: jn xs ys
termination_by xs ys => xs.length + ys.length
theorem jn_nil (xs : List Smp) : jn xs [] = xs := by cases xs <;> simp [jn]
theorem jn_comm : ∀ (n : Nat) (xs ys : List Smp), xs.length + ys.length ≤ n → jn xs ys = jn ys xs := by
  intro n
  induction n with
  | zero =>
    intro xs ys h
    have h1 : xs = [] := List.eq_nil_of_length_eq_zero (by omega)
    have h2 : ys = [] := List.eq_nil_of_length_eq_zero (by omega)
    subst h1 h2; rfl
  | succ n ih =>
    intro xs ys h
    cases xs with
    | nil => rw [jn_nil]; simp [jn]
    | cons x xs =>
      cases ys with
      | nil => rw [jn_nil]; simp [jn]
      | cons y ys =>
        simp only [List.length_cons] at h
        rw [jn, jn]
        by_cases h1 : x.At < y.At
        · have : ¬ y.At < x.At := by omega
          rw [if_pos h1, if_neg this, if_pos h1, ih xs (y :: ys) (by simp only [List.length_cons]; omega)]
        · by_cases h2 : y.At < x.At
          · rw [if_neg h1, if_pos h2, if_pos h2, ih (x :: xs) ys (by simp only [List.length_cons]; omega)]
          · rw [if_neg h1, if_neg h2, if_neg h2, if_neg h1, ih xs ys (by omega), bo_comm (by omega)]
theorem jn_len : ∀ (n : Nat) (xs ys : List Smp), xs.length + ys.length ≤ n → (jn xs ys).length ≤ xs.length + ys.length := by
  intro n
  induction n with
  | zero =>
    intro xs ys h
    have h1 : xs = [] := List.eq_nil_of_length_eq_zero (by omega)
    subst h1; simp [jn]
  | succ n ih =>
    intro xs ys h
    cases xs with
    | nil => simp [jn]
    | cons x xs =>
      cases ys with
      | nil => simp [jn]
      | cons y ys =>
        simp only [List.length_cons] at h
        rw [jn]
        split
        · have := ih xs (y :: ys) (by simp only [List.length_cons]; omega)
          simp only [List.length_cons] at this ⊢; omega
        · split
          · have := ih (x :: xs) ys (by simp only [List.length_cons]; omega)
            simp only [List.length_cons] at this ⊢; omega
          · have := ih xs ys (by omega)
            simp only [List.length_cons] at this ⊢; omega
theorem idx0 {α : Type} {x : α} {xs : List α} : idx (x :: xs) 0 = some x := rfl
theorem slc1 {α : Type} {x : α} {xs : List α} : slc (x :: xs) 1 ((x :: xs).length : Int) = some xs := by
  rw [slc_ex (by omega) (by simp only [List.length_cons]; omega) (Int.le_refl _)]
  simp
theorem join_loop (xs ys : List Smp) (h : xs.length + ys.length ≤ 100000) : loop (t3 series_Join_L2) ([], xs, ys) = some (jn xs ys) := by
  refine (loop_to (body := t3 series_Join_L2) (fun p => p.1.length + p.2.1.length + p.2.2.length ≤ 100000) (fun p => p.2.1.length + p.2.2.length) (fun p => p.1 ++ jn p.2.1 p.2.2) ?_ ([], xs, ys) (by simp; omega)).trans (by simp)
  rintro ⟨acc, xs, ys⟩ hl
  simp only at hl
  simp only [t3_mk]
  unfold series_Join_L2
  have e0 : i64 ((xs.length : Int) + (ys.length : Int)) = (xs.length : Int) + ys.length := i64_id (by omega) (by omega)
  rw [e0]
  have ea : ∀ z : Smp, app acc [z] = some (acc ++ [z]) := fun z => app_of (by simp; omega)
  cases xs with
  | nil =>
    cases ys with
    | nil => right; simp [jn]
    | cons y ys =>
      left
      refine ⟨(acc ++ [y], [], ys), ?_, by simp at hl ⊢; omega, by simp, by simp [jn]⟩
      have h1 : (0 : Int) < (([] : List Smp).length : Int) + ((y :: ys).length : Int) := by simp only [List.length_nil, List.length_cons]; omega
      have h2 : ¬ ((y :: ys).length : Int) = 0 := by simp only [List.length_cons]; omega
      rw [decide_eq_true h1, decide_eq_false h2]
      simp only [if_true, idx0, slc1, List.length_nil]
      simp [ea]
  | cons x xs =>
    have hx : (0 : Int) < ((x :: xs).length : Int) := by simp only [List.length_cons]; omega
    have hx0 : ¬ ((x :: xs).length : Int) = 0 := by omega
    cases ys with
    | nil =>
      left
      refine ⟨(acc ++ [x], xs, []), ?_, by simp at hl ⊢; omega, by simp, by simp [jn, jn_nil]⟩
      have h1 : (0 : Int) < ((x :: xs).length : Int) + (([] : List Smp).length : Int) := by simp only [List.length_nil]; omega
      rw [decide_eq_true h1]
      simp only [if_true, idx0, slc1, List.length_nil]
      simp [ea]
    | cons y ys =>
      left
      have h1 : (0 : Int) < ((x :: xs).length : Int) + ((y :: ys).length : Int) := by simp only [List.length_cons]; omega
      have h2 : ¬ ((y :: ys).length : Int) = 0 := by simp only [List.length_cons]; omega
      rw [decide_eq_true h1, decide_eq_false h2, decide_eq_true hx, decide_eq_false hx0]
      simp only [if_true, idx0, slc1]
      by_cases c1 : x.At < y.At
      · exact ⟨(acc ++ [x], xs, y :: ys), by simp [c1, ea], by simp at hl ⊢; omega, by simp, by simp [jn, c1]⟩
      · by_cases c2 : y.At < x.At
        · exact ⟨(acc ++ [y], x :: xs, ys), by simp [c1, c2, ea], by simp at hl ⊢; omega, by simp, by simp [jn, c1, c2]⟩
        · refine ⟨(acc ++ [bo x y], xs, ys), ?_, by simp at hl ⊢; omega, by simp; omega, by simp [jn, c1, c2]⟩
          simp only [both_s, Option.bind_some]
          simp [c1, c2, ea]
theorem rjoin_loop (a b : api_Series) (h : a.Samples.length + b.Samples.length ≤ 100000) : loop (t3 (ref5_Join_L1 a b)) ([], 0, 0) = some (jn a.Samples b.Samples) := by
  refine (loop_to (body := t3 (ref5_Join_L1 a b)) (fun p => ∃ i k : Nat, p.2 = ((i : Int), (k : Int)) ∧ i ≤ a.Samples.length ∧ k ≤ b.Samples.length ∧ p.1.length ≤ i + k) (fun p => (a.Samples.length - p.2.1.toNat) + (b.Samples.length - p.2.2.toNat)) (fun p => p.1 ++ jn (a.Samples.drop p.2.1.toNat) (b.Samples.drop p.2.2.toNat)) ?_ ([], 0, 0) ⟨0, 0, rfl, Nat.zero_le _, Nat.zero_le _, Nat.le_refl _⟩).trans (by simp)
  rintro ⟨acc, i, k⟩ ⟨i, k, he, hi, hk, ha⟩
  simp only [Prod.mk.injEq] at he ha
  obtain ⟨rfl, rfl⟩ := he
  simp only [t3_mk, Int.toNat_natCast]
  unfold ref5_Join_L1
  have ei : i64 ((i : Int) + 1) = ((i + 1 : Nat) : Int) := by show IntKind.i64.wrap _ = _; rw [i64_id (by omega) (by omega)]; push_cast; rfl
  have ek : i64 ((k : Int) + 1) = ((k + 1 : Nat) : Int) := by show IntKind.i64.wrap _ = _; rw [i64_id (by omega) (by omega)]; push_cast; rfl
  rw [ei, ek]
  have ea : ∀ z : Smp, app acc [z] = some (acc ++ [z]) := fun z => app_of (by simp; omega)
  rcases Nat.lt_or_ge i a.Samples.length with h1 | h1
  · obtain ⟨x, hx⟩ := get_ex h1
    have c1 : (i : Int) < (a.Samples.length : Int) := by omega
    have c1' : ¬ (i : Int) = (a.Samples.length : Int) := by omega
    rw [decide_eq_true c1, decide_eq_false c1']
    rcases Nat.lt_or_ge k b.Samples.length with h2 | h2
    · obtain ⟨y, hy⟩ := get_ex h2
      have c2 : (k : Int) < (b.Samples.length : Int) := by omega
      have c2' : ¬ (k : Int) = (b.Samples.length : Int) := by omega
      rw [decide_eq_true c2, decide_eq_false c2', drop_cons hx, drop_cons hy]
      simp only [idx_of hx, idx_of hy]
      left
      by_cases d1 : x.At < y.At
      · exact ⟨(acc ++ [x], ((i + 1 : Nat) : Int), (k : Int)), by simp [d1, ea], ⟨i + 1, k, rfl, h1, hk, by simp; omega⟩, by simp only [Int.toNat_natCast]; omega, by simp only [Int.toNat_natCast]; rw [drop_cons hy]; simp [jn, d1]⟩
      · by_cases d2 : y.At < x.At
        · exact ⟨(acc ++ [y], (i : Int), ((k + 1 : Nat) : Int)), by simp [d1, d2, ea], ⟨i, k + 1, rfl, hi, h2, by simp; omega⟩, by simp only [Int.toNat_natCast]; omega, by simp only [Int.toNat_natCast]; rw [drop_cons hx]; simp [jn, d1, d2]⟩
        · refine ⟨(acc ++ [bo x y], ((i + 1 : Nat) : Int), ((k + 1 : Nat) : Int)), ?_, ⟨i + 1, k + 1, rfl, h1, h2, by simp; omega⟩, by simp only [Int.toNat_natCast]; omega, by simp only [Int.toNat_natCast]; simp [jn, d1, d2]⟩
          simp only [rboth_s, Option.bind_some]
          simp [d1, d2, ea]
    · have : k = b.Samples.length := by omega
      subst this
      rw [drop_cons hx]
      simp only [idx_of hx]
      left
      exact ⟨(acc ++ [x], ((i + 1 : Nat) : Int), (b.Samples.length : Int)), by simp [ea], ⟨i + 1, _, rfl, h1, hk, by simp; omega⟩, by simp only [Int.toNat_natCast]; omega, by simp only [Int.toNat_natCast]; simp [jn, jn_nil]⟩
  · have : i = a.Samples.length := by omega
    subst this
    rcases Nat.lt_or_ge k b.Samples.length with h2 | h2
    · obtain ⟨y, hy⟩ := get_ex h2
      have c2 : (k : Int) < (b.Samples.length : Int) := by omega
      have c2' : ¬ (k : Int) = (b.Samples.length : Int) := by omega
      rw [decide_eq_true c2, decide_eq_false c2', drop_cons hy]
      simp only [idx_of hy]
      left
      exact ⟨(acc ++ [y], (a.Samples.length : Int), ((k + 1 : Nat) : Int)), by simp [ea], ⟨_, k + 1, rfl, hi, h2, by simp; omega⟩, by simp only [Int.toNat_natCast]; omega, by simp only [Int.toNat_natCast]; simp [jn]⟩
    · have : k = b.Samples.length := by omega
      subst this
      right
      simp [jn]
end Go.Vx

namespace Go.Vx
open Go Go.RowKit
def bad (e : Int) : api_Series × Int := (⟨0, []⟩, e)
def outJoin (a b : api_Series) : api_Series × Int :=
  if (chk a).2 ≠ 0 then bad (chk a).2 else if (chk b).2 ≠ 0 then bad (chk b).2 else if a.Den ≠ b.Den then bad 2 else if 20000 < (jn a.Samples b.Samples).length then bad 3 else (⟨a.Den, jn a.Samples b.Samples⟩, 0)
/-- Two series are checked, one behind the other. -/
theorem two_checks {ρ : Type} (a b : api_Series) (f : Int → ρ) : ∀ (body : Int → Option (Int ⊕ ρ ⊕ Unit)),
    (∀ i, body i = if (decide (i < (([a, b] : List api_Series).length : Int))) = true then
      (idx ([a, b] : List api_Series) i).bind fun x => (series_Check x).bind fun y =>
      if (!decide (y = 0)) = true then some (.inr (.inl (f y))) else some (.inl (i64 (i + 1))) else some (.inr (.inr ()))) →
    loop (t1 body) 0 = some (if (chk a).2 ≠ 0 then .inl (f (chk a).2) else if (chk b).2 ≠ 0 then .inl (f (chk b).2) else .inr ()) := by
  intro body hb
  have hF : ∃ F : Nat → ρ ⊕ Unit, F = fun k => if k = 0 then (if (chk a).2 ≠ 0 then Sum.inl (f (chk a).2) else if (chk b).2 ≠ 0 then Sum.inl (f (chk b).2) else Sum.inr ()) else if k = 1 then (if (chk b).2 ≠ 0 then Sum.inl (f (chk b).2) else Sum.inr ()) else Sum.inr () := ⟨_, rfl⟩
  obtain ⟨F, hF⟩ := hF
  refine (loop_ix1 (xs := [a, b]) F ?_ ?_).trans (by rw [hF]; simp)
  · intro k x hx
    match k, hx with
    | 0, hx =>
      simp only [List.getElem?_cons_zero, Option.some.injEq] at hx
      subst hx
      have e : i64 1 = 1 := by decide
      by_cases h : (chk a).2 = 0
      · left
        rw [hb, hF]
        simp [idx, Check_s, h, e]
      · right
        rw [hb, hF]
        simp [idx, Check_s, h]
    | 1, hx =>
      simp only [List.getElem?_cons_succ, List.getElem?_cons_zero, Option.some.injEq] at hx
      subst hx
      have e : i64 2 = 2 := by decide
      by_cases h : (chk b).2 = 0
      · left
        rw [hb, hF]
        simp [idx, Check_s, h, e]
      · right
        rw [hb, hF]
        simp [idx, Check_s, h]
    | k + 2, hx => simp at hx
  · rw [hb, hF]; simp
theorem Join_s (a b : api_Series) : series_Join a b = some (outJoin a b) := by
  unfold series_Join
  rw [two_checks a b (fun y => (api_Series.mk 0 [], y)) (series_Join_L1 a b) (fun i => rfl)]
  unfold outJoin bad
  by_cases h0 : (chk a).2 = 0
  · by_cases h1 : (chk b).2 = 0
    · by_cases h2 : a.Den = b.Den
      · have ha := (ser_ok h0).len
        have hbl := (ser_ok h1).len
        simp only [h0, h1, h2, join_loop a.Samples b.Samples (by omega)]
        by_cases h3 : 20000 < (jn a.Samples b.Samples).length
        · have : (20000 : Int) < ((jn a.Samples b.Samples).length : Int) := by omega
          simp [h3, this]
        · have : ¬ (20000 : Int) < ((jn a.Samples b.Samples).length : Int) := by omega
          simp [h3, this]
      · simp [h0, h1, h2]
    · simp [h0, h1]
  · simp [h0]
theorem pairFault_s (a b : api_Series) : ref5_pairFault a b = some (if (chk a).2 ≠ 0 then (chk a).2 else if (chk b).2 ≠ 0 then (chk b).2 else if a.Den ≠ b.Den then 2 else 0) := by
  unfold ref5_pairFault
  simp only [rCheck_s, Option.bind_some]
  by_cases h0 : (chk a).2 = 0
  · by_cases h1 : (chk b).2 = 0
    · by_cases h2 : a.Den = b.Den <;> simp [h0, h1, h2]
    · simp [h0, h1]
  · simp [h0]
theorem rJoin_s (a b : api_Series) : ref5_Join a b = some (outJoin a b) := by
  unfold ref5_Join
  rw [pairFault_s]
  unfold outJoin bad
  by_cases h0 : (chk a).2 = 0
  · by_cases h1 : (chk b).2 = 0
    · by_cases h2 : a.Den = b.Den
      · have ha := (ser_ok h0).len
        have hbl := (ser_ok h1).len
        have := rjoin_loop a b (by omega)
        simp only [h0, h1, h2, this]
        by_cases h3 : 20000 < (jn a.Samples b.Samples).length
        · have : (20000 : Int) < ((jn a.Samples b.Samples).length : Int) := by omega
          simp [h3, this]
        · have : ¬ (20000 : Int) < ((jn a.Samples b.Samples).length : Int) := by omega
          simp [h3, this]
      · simp [h0, h1, h2]
    · simp [h0, h1]
  · simp [h0]
theorem outJoin_len (a b : api_Series) : (outJoin a b).1.Samples.length ≤ 1048576 := by
  unfold outJoin bad
  split
  · simp
  · split
    · simp
    · split
      · simp
      · split
        · simp
        · simp only; omega
theorem law_Join (a b : api_Series) : law5_SeriesJoinMatchesSpec a b = some true := by
  simp only [law5_SeriesJoinMatchesSpec, Join_s, rJoin_s, Option.bind_some]
  obtain ⟨t, ht⟩ := told_t (outJoin a b).1 (outJoin a b).2 (outJoin_len a b)
  simp only [ht, Option.bind_some, decide_true, Bool.not_true, Bool.false_eq_true, if_false, holds_s]
  by_cases he : (outJoin a b).2 = 0
  · have hs : outJoin b a = outJoin a b := by
      unfold outJoin at he ⊢
      by_cases h0 : (chk a).2 = 0
      · by_cases h1 : (chk b).2 = 0
        · by_cases h2 : a.Den = b.Den
          · have h2' : b.Den = a.Den := h2.symm
            simp only [h0, h1, h2, jn_comm _ b.Samples a.Samples (Nat.le_refl _)]
          · simp [h0, h1, h2, bad] at he
        · simp [h0, h1, bad] at he
      · simp [h0, bad] at he
    obtain ⟨t2, ht2⟩ := told_t (outJoin a b).1 0 (outJoin_len a b)
    rw [he] at ht
    simp [he, hs, ht]
  · simp [he]
end Go.Vx
