/- A text of the proof: a verified executor of the program form, or the contracts of the functions that the law reaches. -/
import Derived.Test.YtecdkapjjhkanaaDoorPuD8
set_option linter.all false
namespace Go.Vx
open Go Go.RowKit
theorem run_inv {σ : Type} {f : Nat → σ → σ} {I : σ → Prop} {k0 n : Nat} (h : ∀ k st, k0 ≤ k → k < n → I st → I (f k st)) : ∀ m k st, k0 ≤ k → k + m ≤ n → I st → I (run f m k st)
  | 0, _, _, _, _, hI => hI
  | m + 1, k, st, hk, hn, hI => run_inv h m (k + 1) (f k st) (by omega) (by omega) (h k st hk (by omega) hI)
noncomputable def bestS (s : api_Series) (long : Int) : StS := run (stF s long (filtI sol 0 s.Samples)) (max 1 (filtI sol 0 s.Samples).length - 1) 1 none
def endS (st : StS) : api_Ratio × Int × Int := match st with
  | none => (⟨0, 0⟩, 0, 13)
  | some (num, den, at') => (⟨i64 (num.tdiv (Int.gcd num den : Int)), i64 (den.tdiv (Int.gcd num den : Int))⟩, at', 0)
noncomputable def outSt (s : api_Series) (long : Int) : api_Ratio × Int × Int :=
  if (chk s).2 ≠ 0 then (⟨0, 0⟩, 0, (chk s).2) else if wi long 0 1099511627776 = false then (⟨0, 0⟩, 0, 9) else endS (bestS s long)
theorem best_inv {s : api_Series} (hs : SerOK s) (long : Int) : InvS (bestS s long) :=
  run_inv (k0 := 1) (n := max 1 (filtI sol 0 s.Samples).length) (fun k st h1 h2 hI => stF_inv hs h1 (by omega) hI) _ 1 none (Nat.le_refl _) (by omega) trivial
theorem st_loop {s : api_Series} (hs : SerOK s) (long : Int) : loop (t4 (series_Steepest_L1 s long (filtI sol 0 s.Samples))) ((-1), 0, 1, 1) = some (outP (bestS s long)) := by
  refine loop_run (max 1 (filtI sol 0 s.Samples).length) InvS (stF s long (filtI sol 0 s.Samples)) encP outP 1 (fun k st h1 h2 hI => steep_step hs long k st h1 (by omega) hI) (fun st _ => ?_) none (by omega) trivial
  have : ¬ (((max 1 (filtI sol 0 s.Samples).length : Nat)) : Int) < ((filtI sol 0 s.Samples).length : Int) := by omega
  cases st with
  | none => simp only [encP, t4_mk, series_Steepest_L1]; rw [if_neg (by simpa using this)]; rfl
  | some q => obtain ⟨num, den, at'⟩ := q; simp only [encP, t4_mk, series_Steepest_L1]; rw [if_neg (by simpa using this)]; rfl
theorem rst_loop {s : api_Series} (hs : SerOK s) (long : Int) : loop (t4 (ref5_Steepest_L1 s long (filtI sol 0 s.Samples))) (0, 0, 0, 1) = some (outR (bestS s long)) := by
  refine loop_run (max 1 (filtI sol 0 s.Samples).length) InvS (stF s long (filtI sol 0 s.Samples)) encR outR 1 (fun k st h1 h2 hI => rsteep_step hs long k st h1 (by omega) hI) (fun st _ => ?_) none (by omega) trivial
  have : ¬ (((max 1 (filtI sol 0 s.Samples).length : Nat)) : Int) < ((filtI sol 0 s.Samples).length : Int) := by omega
  cases st with
  | none => simp only [encR, t4_mk, ref5_Steepest_L1]; rw [if_neg (by simpa using this)]; rfl
  | some q => obtain ⟨num, den, at'⟩ := q; simp only [encR, t4_mk, ref5_Steepest_L1]; rw [if_neg (by simpa using this)]; rfl
theorem divisor_s {a b : Int} (ha : 0 ≤ a) (ha2 : a ≤ 4611686018427387904) (hb : 0 ≤ b) (hb2 : b ≤ 4611686018427387904) : series_divisor a b = some (Int.gcd a b : Int) := by
  have e1 : i64 (-a) = -a := i64_id (by omega) (by omega)
  have e2 : i64 (-b) = -b := i64_id (by omega) (by omega)
  unfold series_divisor series_size
  simp only [e1, e2, Option.bind_some, show max a (-a) = a by omega, show max b (-b) = b by omega, gcd_s ha hb]
  rfl
theorem rgcd_s {a b : Int} (ha : 0 ≤ a) (hb : 0 ≤ b) : ref5_gcd a b = some (Int.gcd a b : Int) := by
  unfold ref5_gcd
  have : ref5_gcd_L1 = series_divisor_L1 := rfl
  rw [this, gcd_s ha hb]; rfl
theorem Steepest_s (s : api_Series) (long : Int) : series_Steepest s long = some (outSt s long) := by
  unfold series_Steepest outSt
  simp only [Check_s, within_s, Option.bind_some]
  by_cases h0 : (chk s).2 = 0
  · cases h1 : wi long 0 1099511627776 with
    | false => simp [h0]
    | true =>
      have hs := ser_ok h0
      have hI := best_inv hs long
      simp only [h0, solids_s hs, st_loop hs long, Option.bind_some]
      cases hb : bestS s long with
      | none => simp [outP, endS]
      | some q =>
        obtain ⟨num, den, at'⟩ := q
        rw [hb] at hI
        obtain ⟨q1, q2, q3, q4, q5⟩ := hI
        have hm : ¬ at' < 0 := by omega
        have hg := gcd_pos (a := num) q3
        have hg0 : ¬ (Int.gcd num den : Int) = 0 := by omega
        simp [outP, endS, hm, series_ratio, divisor_s q1 (by omega) (Int.le_of_lt q3) (by omega), quo]
        have hd : ¬ (num = 0 ∧ den = 0) := by omega
        simp only [hd, if_false, Option.bind_some]
  · simp [h0]
theorem rSteepest_s (s : api_Series) (long : Int) : ref5_Steepest s long = some (outSt s long) := by
  unfold ref5_Steepest outSt
  simp only [rCheck_s, outside_s, Option.bind_some]
  by_cases h0 : (chk s).2 = 0
  · cases h1 : wi long 0 1099511627776 with
    | false => simp [h0]
    | true =>
      have hs := ser_ok h0
      have hI := best_inv hs long
      simp only [h0, rsolids_s hs, rst_loop hs long, Option.bind_some]
      cases hb : bestS s long with
      | none => simp [outR, endS]
      | some q =>
        obtain ⟨num, den, at'⟩ := q
        rw [hb] at hI
        obtain ⟨q1, q2, q3, q4, q5⟩ := hI
        have hm : ¬ den = 0 := by omega
        have hg := gcd_pos (a := num) q3
        have hg0 : ¬ (Int.gcd num den : Int) = 0 := by omega
        simp [outR, endS, hm, rgcd_s (Int.le_of_lt q3) q1, quo, Int.gcd_comm den num]
  · simp [h0]
theorem law_Combine (a b : api_Series) (op long : Int) : law5_SeriesCombineMatchesSpec a b op long = some true := by
  simp only [law5_SeriesCombineMatchesSpec, Combine_s, rCombine_s, Steepest_s, rSteepest_s, Option.bind_some]
  obtain ⟨t, ht⟩ := told_t (outComb a b op long).1 (outComb a b op long).2 (outComb_len a b op long)
  simp [ht, holds_s]
end Go.Vx
