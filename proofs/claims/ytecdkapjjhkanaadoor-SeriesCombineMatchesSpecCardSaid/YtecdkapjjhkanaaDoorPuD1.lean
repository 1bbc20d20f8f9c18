/- A text of the proof: a verified executor of the program form, or the contracts of the functions that the law reaches. -/
import Derived.Test.YtecdkapjjhkanaaDoorPuT
set_option linter.all false
namespace Go.Vx
open Go Go.RowKit
/-! ## Resample -/
theorem loop_build {α : Type} {body : List α → Int → Option ((List α × Int) ⊕ (List α))} (n : Nat) (g : Nat → α)
    (hstep : ∀ (k : Nat) acc, k < n → acc.length = k → body acc k = some (.inl (acc ++ [g k], (k : Int) + 1)))
    (hend : ∀ acc, body acc n = some (.inr acc)) : loop (t2 body) ([], 0) = some ((List.range n).map g) := by
  have := loop_to (body := t2 body) (fun p => ∃ k : Nat, p.2 = k ∧ k ≤ n ∧ p.1 = (List.range k).map g) (fun p => n - p.2.toNat) (fun _ => (List.range n).map g) (by
    rintro ⟨acc, i⟩ ⟨k, hi, hk, ha⟩
    simp only at hi ha
    subst hi ha
    simp only [t2_mk]
    rcases Nat.lt_or_ge k n with h | h
    · left
      refine ⟨_, hstep k _ h (by simp), ⟨k + 1, by push_cast; rfl, h, by simp [List.range_succ]⟩, by simp only; omega, trivial⟩
    · have : k = n := by omega
      subst this
      exact .inr (hend _)) ([], 0) ⟨0, rfl, Nat.zero_le _, rfl⟩
  exact this
def resG (s : api_Series) (from_ step long : Int) (k : Nat) : Smp := ⟨from_ + k * step, (outH (heldAt s.Samples (from_ + k * step) long)).1.N, (outH (heldAt s.Samples (from_ + k * step) long)).1.Mark⟩
def resOK (from_ step count long : Int) : Bool := wi from_ 0 1099511627776 && wi long 0 1099511627776 && wi step 1 1099511627776 && wi count 0 20000 && (decide (count ≤ 0) || decide (from_ + (count - 1) * step ≤ 1099511627776))
def outRes (s : api_Series) (from_ step count long : Int) : api_Series × Int :=
  if (chk s).2 ≠ 0 then (⟨0, []⟩, (chk s).2) else if resOK from_ step count long then (⟨s.Den, (List.range count.toNat).map (resG s from_ step long)⟩, 0) else (⟨0, []⟩, 9)
theorem mul_in {a b A B : Int} (h0 : 0 ≤ a) (h1 : a ≤ A) (h2 : 0 ≤ b) (h3 : b ≤ B) : 0 ≤ a * b ∧ a * b ≤ A * B :=
  ⟨Int.mul_nonneg h0 h2, Int.mul_le_mul h1 h3 h2 (by omega)⟩
theorem res_bd {from_ step count long : Int} (h : resOK from_ step count long = true) (k : Nat) (hk : (k : Int) < count) :
    (0 ≤ k * step ∧ k * step ≤ 20000 * 1099511627776) ∧ 0 ≤ from_ + k * step ∧ from_ + k * step ≤ 1099511627776 := by
  simp only [resOK, Bool.and_eq_true, wi_iff, Bool.or_eq_true, decide_eq_true_iff] at h
  obtain ⟨⟨⟨⟨hf, hl⟩, hs⟩, hc⟩, hlast⟩ := h
  have h1 := mul_in (a := k) (b := step) (A := 20000) (B := 1099511627776) (by omega) (by omega) (by omega) (by omega)
  have h2 : (k : Int) * step ≤ (count - 1) * step := Int.mul_le_mul_of_nonneg_right (by omega) (by omega)
  exact ⟨h1, by omega, by omega⟩
theorem res_loop {body : List Smp → Int → Option ((List Smp × Int) ⊕ (List Smp))} {f : api_Series → Int → Int → Option (Smp × Bool)} {s : api_Series} {from_ step count long : Int} (hs : SerOK s)
    (hf : ∀ t long, 0 ≤ t ∧ t ≤ 1099511627776 → f s t long = some (outH (heldAt s.Samples t long))) (h : resOK from_ step count long = true)
    (hb : ∀ acc i, body acc i = if (decide (i < count)) = true then
      (f s (IntKind.i64.wrap (from_ + (IntKind.i64.wrap (i * step)))) long).bind fun y6 =>
      (app acc ([(api_Sample.mk (IntKind.i64.wrap (from_ + (IntKind.i64.wrap (i * step)))) y6.1.N y6.1.Mark)] : List api_Sample)).bind fun l =>
      some (.inl (l, (IntKind.i64.wrap (i + 1))))
      else some (.inr acc)) : loop (t2 body) ([], 0) = some ((List.range count.toNat).map (resG s from_ step long)) := by
  have hc : 0 ≤ count ∧ count ≤ 20000 := by
    simp only [resOK, Bool.and_eq_true, wi_iff] at h; exact h.1.2
  refine loop_build _ _ (fun k acc hk ha => ?_) (fun acc => ?_)
  · have hk' : (k : Int) < count := by omega
    obtain ⟨⟨h1, h2⟩, h3, h4⟩ := res_bd h k hk'
    have e1 : IntKind.i64.wrap ((k : Int) * step) = k * step := i64_id (by omega) (by omega)
    have e2 : IntKind.i64.wrap (from_ + (k : Int) * step) = from_ + k * step := i64_id (by omega) (by omega)
    have e3 : IntKind.i64.wrap ((k : Int) + 1) = (k : Int) + 1 := i64_id (by omega) (by omega)
    rw [hb]
    simp only [hk', decide_true, if_true, e1, e2, e3, hf _ long ⟨h3, h4⟩, Option.bind_some]
    rw [app_of (by simp; omega)]
    rfl
  · rw [hb]
    have : ¬ ((count.toNat : Nat) : Int) < count := by omega
    rw [if_neg (by simpa using this)]
theorem res_last {from_ step count : Int} (hf : wi from_ 0 1099511627776 = true) (hs : wi step 1 1099511627776 = true) (hc : wi count 0 20000 = true) :
    ((decide (0 < count)) && (decide (1099511627776 < (IntKind.i64.wrap (from_ + (IntKind.i64.wrap ((IntKind.i64.wrap (count - 1)) * step))))))) = !(decide (count ≤ 0) || decide (from_ + (count - 1) * step ≤ 1099511627776)) := by
  simp only [wi_iff] at hf hs hc
  have e0 : IntKind.i64.wrap (count - 1) = count - 1 := i64_id (by omega) (by omega)
  by_cases h : 0 < count
  · have h1 := mul_in (a := count - 1) (b := step) (A := 20000) (B := 1099511627776) (by omega) (by omega) (by omega) (by omega)
    have e1 : IntKind.i64.wrap ((count - 1) * step) = (count - 1) * step := i64_id (by omega) (by omega)
    have e2 : IntKind.i64.wrap (from_ + (count - 1) * step) = from_ + (count - 1) * step := i64_id (by omega) (by omega)
    have h2 : ¬ count ≤ 0 := by omega
    simp only [e0, e1, e2, h, h2, decide_true, decide_false, Bool.true_and, Bool.false_or]
    rw [Bool.eq_iff_iff]; simp [Int.not_le]
  · have h2 : count ≤ 0 := by omega
    simp [h, h2]
theorem Resample_s (s : api_Series) (from_ step count long : Int) : series_Resample s from_ step count long = some (outRes s from_ step count long) := by
  simp only [series_Resample, Check_s, within_s, Option.bind_some, outRes]
  by_cases h0 : (chk s).2 = 0
  · cases h1 : wi from_ 0 1099511627776 with
    | false => simp [h0, resOK, h1]
    | true => cases h2 : wi long 0 1099511627776 with
      | false => simp [h0, resOK, h1, h2]
      | true => cases h3 : wi step 1 1099511627776 with
        | false => simp [h0, resOK, h1, h2, h3]
        | true => cases h4 : wi count 0 20000 with
          | false => simp [h0, resOK, h1, h2, h3, h4]
          | true =>
            have hl := res_last h1 h3 h4
            cases h5 : (decide (count ≤ 0) || decide (from_ + (count - 1) * step ≤ 1099511627776)) with
            | false => rw [h5] at hl; simp [h0, resOK, h1, h2, h3, h4, h5, hl]
            | true =>
              rw [h5] at hl
              have hr : resOK from_ step count long = true := by simp [resOK, h1, h2, h3, h4, h5]
              have := res_loop (body := series_Resample_L1 s from_ step count long) (f := series_hold) (ser_ok h0) (fun t l ht => hold_s (ser_ok h0) t l ht) hr (fun acc i => rfl)
              simp [h0, hl, this, hr]
  · simp [h0]
theorem rResample_s (s : api_Series) (from_ step count long : Int) : ref5_Resample s from_ step count long = some (outRes s from_ step count long) := by
  simp only [ref5_Resample, rCheck_s, outside_s, Option.bind_some, outRes]
  by_cases h0 : (chk s).2 = 0
  · cases h1 : wi from_ 0 1099511627776 with
    | false => simp [h0, resOK, h1]
    | true => cases h2 : wi long 0 1099511627776 with
      | false => simp [h0, resOK, h1, h2]
      | true => cases h3 : wi step 1 1099511627776 with
        | false => simp [h0, resOK, h1, h2, h3]
        | true => cases h4 : wi count 0 20000 with
          | false => simp [h0, resOK, h1, h2, h3, h4]
          | true =>
            have hl := res_last h1 h3 h4
            cases h5 : (decide (count ≤ 0) || decide (from_ + (count - 1) * step ≤ 1099511627776)) with
            | false => rw [h5] at hl; simp [h0, resOK, h1, h2, h3, h4, h5, hl]
            | true =>
              rw [h5] at hl
              have hr : resOK from_ step count long = true := by simp [resOK, h1, h2, h3, h4, h5]
              have := res_loop (body := ref5_Resample_L1 s from_ step count long) (f := ref5_Held) (ser_ok h0) (fun t l ht => rHeld_s (ser_ok h0) t l ht) hr (fun acc i => rfl)
              simp [h0, hl, this, hr]
  · simp [h0]
theorem law_Resample (s : api_Series) (from_ step count long : Int) : law5_SeriesResampleMatchesSpec s from_ step count long = some true := by
  simp only [law5_SeriesResampleMatchesSpec, Resample_s, rResample_s, Option.bind_some]
  obtain ⟨t, ht⟩ := told_t (outRes s from_ step count long).1 (outRes s from_ step count long).2 (by
    unfold outRes
    split
    · simp
    · split
      · rename_i h
        simp only [resOK, Bool.and_eq_true, wi_iff] at h
        simp; omega
      · simp)
  simp [ht, holds_s]
end Go.Vx
