/- A text of the proof: a verified executor of the program form, or the contracts of the functions that the law reaches. -/
import Derived.Test.YtecdkapjjhkanaaDoorPuD4
set_option linter.all false
namespace Go.Vx
open Go Go.RowKit
/-! ## Calibrate -/
theorem mean_f {c : api_Calibration} {v : Int} (h : (mean c v).2 = false) : (mean c v).1 = 0 := by
  unfold mean at h ⊢
  have : ∀ xs : List Lin, ∀ r, findL (hit c v) xs = some r → r.2 = true := by
    intro xs
    induction xs with
    | nil => intro r hr; cases hr
    | cons x tl ih =>
      intro r hr
      simp only [findL] at hr
      cases hx : hit c v x with
      | none => rw [hx] at hr; exact ih r hr
      | some q =>
        rw [hx] at hr
        cases hr
        unfold hit at hx
        split at hx
        · cases hx; rfl
        · cases hx
  cases hf : findL (hit c v) c.Lines with
  | none => rfl
  | some r =>
    rw [hf] at h
    have := this _ _ hf
    simp [this] at h
def calS (c : api_Calibration) (x : Smp) : Smp := if x.Mark < 2 then x else ⟨x.At, (mean c x.N).1, if (mean c x.N).2 then x.Mark else 1⟩
def outCal (s : api_Series) (c : api_Calibration) : api_Series × Int :=
  if (chk s).2 ≠ 0 then bad (chk s).2 else if chkC c ≠ 0 then bad (chkC c) else if s.Den ≠ 1 then bad 2 else (⟨c.Den, s.Samples.map (calS c)⟩, 0)
theorem cal_loop {s : api_Series} {c : api_Calibration} (hs : SerOK s) (hc : chkC c = 0) : loop (t2 (series_Calibrate_L1 c s.Samples)) (s.Samples, 0) = some (s.Samples.map (calS c)) := by
  have hl := hs.len
  refine loop_set (xs := s.Samples) (body := series_Calibrate_L1 c s.Samples) (calS c) (fun k x acc hx ha hax => ?_) (fun acc => by simp [series_Calibrate_L1])
  have hlt := lt_of hx
  have e1 : i64 ((k : Int) + 1) = (k : Int) + 1 := i64_id (by omega) (by omega)
  simp only [series_Calibrate_L1, hlt, decide_true, if_true, idx_of hax, Option.bind_some, e1, apply_s c x.N (cal_ok hc).1]
  unfold calS
  by_cases h : x.Mark < 2
  · refine ⟨acc, by simp [h], ?_⟩
    rw [if_pos h]
    obtain ⟨hk, he⟩ := List.getElem?_eq_some_iff.1 hax
    rw [← he, List.set_getElem_self]
  · rw [if_neg h]
    cases hm : (mean c x.N).2 with
    | true => exact ⟨_, by simp [h], rfl⟩
    | false => exact ⟨acc.set k ⟨x.At, 0, 1⟩, by simp [h], by rw [mean_f hm]; rfl⟩
theorem rcal_loop {s : api_Series} {c : api_Calibration} (hs : SerOK s) (hc : chkC c = 0) : loop (t2 (ref5_Meant_L1 s c)) ([], 0) = some (s.Samples.map (calS c)) := by
  have hl := hs.len
  refine loop_map (xs := s.Samples) (body := ref5_Meant_L1 s c) (calS c) (fun k x acc hx ha => ?_) (fun acc => by simp [ref5_Meant_L1])
  have hlt := lt_of hx
  have e1 : i64 ((k : Int) + 1) = (k : Int) + 1 := i64_id (by omega) (by omega)
  have ea : ∀ z : Smp, app acc [z] = some (acc ++ [z]) := fun z => app_of (by simp; omega)
  simp only [ref5_Meant_L1, hlt, decide_true, if_true, idx_of hx, Option.bind_some, e1, rapply_s x.N hc]
  unfold calS ref5_numbered
  by_cases h : x.Mark < 2
  · have h' : ¬ 2 ≤ x.Mark := by omega
    simp [h, h', ea]
  · have h' : 2 ≤ x.Mark := by omega
    cases hm : (mean c x.N).2 <;> simp [h, h', ea, hm]
theorem Calibrate_s (s : api_Series) (c : api_Calibration) : series_Calibrate s c = some (outCal s c) := by
  unfold series_Calibrate outCal bad
  simp only [Check_s, CheckCal_s, Option.bind_some]
  by_cases h0 : (chk s).2 = 0
  · by_cases h1 : chkC c = 0
    · by_cases h2 : s.Den = 1
      · have hl := (ser_ok h0).len
        have ec : clone s.Samples = some s.Samples := by unfold clone; rw [app_of (by simp; omega)]; rfl
        simp [h0, h1, h2, ec, cal_loop (ser_ok h0) h1]
      · simp [h0, h1, h2]
    · simp [h0, h1]
  · simp [h0]
theorem rCalibrate_s (s : api_Series) (c : api_Calibration) : ref5_Calibrate s c = some (outCal s c) := by
  unfold ref5_Calibrate outCal bad
  simp only [rCheck_s, rCheckCal_s, Option.bind_some]
  by_cases h0 : (chk s).2 = 0
  · by_cases h1 : chkC c = 0
    · by_cases h2 : s.Den = 1
      · simp [h0, h1, h2, ref5_Meant, rcal_loop (ser_ok h0) h1]
      · simp [h0, h1, h2]
    · simp [h0, h1]
  · simp [h0]
theorem outCal_len (s : api_Series) (c : api_Calibration) : (outCal s c).1.Samples.length ≤ 1048576 := by
  unfold outCal bad
  by_cases h0 : (chk s).2 = 0
  · have hl := (ser_ok h0).len
    by_cases h1 : chkC c = 0
    · by_cases h2 : s.Den = 1
      · simp [h0, h1, h2]; omega
      · simp [h0, h1, h2]
    · simp [h0, h1]
  · simp [h0]
theorem law_Calibrate (s : api_Series) (c : api_Calibration) : law5_SeriesCalibrateMatchesSpec s c = some true := by
  simp only [law5_SeriesCalibrateMatchesSpec, Calibrate_s, rCalibrate_s, Option.bind_some]
  obtain ⟨t, ht⟩ := told_t (outCal s c).1 (outCal s c).2 (outCal_len s c)
  simp [ht, holds_s]
end Go.Vx
