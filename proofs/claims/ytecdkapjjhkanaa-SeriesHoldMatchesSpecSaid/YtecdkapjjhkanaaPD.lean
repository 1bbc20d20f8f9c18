/- A text of the proof: a verified executor of the program form, or the contracts of the functions that the law reaches. -/
import Derived.Test.YtecdkapjjhkanaaPC
import Derived.Test.YtecdkapjjhkanaaPA
set_option linter.all false
namespace Go.Vx
open Go Go.RowKit
/-! ## Calibrations -/
abbrev Lin := api_Line
def lineErr (p : Option Lin) (x : Lin) : Option Int :=
  if !(wi x.From (-1099511627776) 1099511627776 && wi x.To (-1099511627776) 1099511627776 && decide (x.From ≤ x.To) && wi x.A_ (-1048576) 1048576 && wi x.B (-1125899906842624) 1125899906842624) then some 9 else
  match p with | none => none | some q => if x.From ≤ q.To then some 10 else none
theorem cal_L1 (c : api_Calibration) (h : (c.Lines.length : Int) ≤ 50) : loop (t1 (series_CheckCalibration_L1 c)) 0 = some (elimO (fun e => Sum.inl e) (Sum.inr ()) (errL lineErr none c.Lines)) := by
  refine loop_err (xs := c.Lines) (body := series_CheckCalibration_L1 c) lineErr (fun e => Sum.inl e) (Sum.inr ()) (fun k x hx => ?_) (by simp [series_CheckCalibration_L1])
  have hlt := lt_of hx
  simp only [series_CheckCalibration_L1, idx_of hx, hlt, decide_true, if_true, Option.bind_some, within_s]
  unfold lineErr
  have e1 : i64 ((k : Int) + 1) = (k : Int) + 1 := i64_id (by omega) (by omega)
  have e2 : i64 ((k : Int) - 1) = (k : Int) - 1 := i64_id (by omega) (by omega)
  rw [e1, e2]
  by_cases h3 : x.To < x.From
  · have h3' : ¬ x.From ≤ x.To := by omega
    cases wi x.From (-1099511627776) 1099511627776 <;> cases wi x.To (-1099511627776) 1099511627776 <;> simp [h3, h3']
  · have h3' : x.From ≤ x.To := by omega
    rcases Nat.eq_zero_or_pos k with rfl | hk
    · cases wi x.From (-1099511627776) 1099511627776 <;> cases wi x.To (-1099511627776) 1099511627776 <;> cases wi x.A_ (-1048576) 1048576 <;> cases wi x.B (-1125899906842624) 1125899906842624 <;> simp [h3, h3', prevA]
    · obtain ⟨y, hy, hp, hi⟩ := prevA_pos (xs := c.Lines) hk (by omega)
      have hk' : (0 : Int) < k := by omega
      rw [hp, hi]
      by_cases h4 : x.From ≤ y.To <;> cases wi x.From (-1099511627776) 1099511627776 <;> cases wi x.To (-1099511627776) 1099511627776 <;> cases wi x.A_ (-1048576) 1048576 <;> cases wi x.B (-1125899906842624) 1125899906842624 <;> simp [h3, h3', hk, hk', h4]
theorem cal_L1' (c : api_Calibration) : ref5_CheckCalibration_L1 c = series_CheckCalibration_L1 c := by
  funext i
  simp only [ref5_CheckCalibration_L1, series_CheckCalibration_L1, outside_s, within_s, Option.bind_some]
  congr 1
  congr 1
  funext x
  cases wi x.From (-1099511627776) 1099511627776 <;> cases wi x.To (-1099511627776) 1099511627776 <;> cases wi x.A_ (-1048576) 1048576 <;> cases wi x.B (-1125899906842624) 1125899906842624 <;> by_cases h : x.To < x.From <;> simp [h]
def num (x : Lin) (v : Int) : Int := i64 (i64 (x.A_ * v) + x.B)
def endErr (x : Lin) : Option Int := if wi (num x x.From) (-1125899906842624) 1125899906842624 && wi (num x x.To) (-1125899906842624) 1125899906842624 then none else some 9
theorem cal_L2 (c : api_Calibration) (h : (c.Lines.length : Int) ≤ 50) : loop (t1 (series_CheckCalibration_L2 c)) 0 = some (elimO (fun e => Sum.inl e) (Sum.inr ()) (findL endErr c.Lines)) := by
  refine loop_find (xs := c.Lines) (body := series_CheckCalibration_L2 c) endErr (fun e => Sum.inl e) (Sum.inr ()) (fun k x hx => ?_) (by simp [series_CheckCalibration_L2])
  have hlt := lt_of hx
  simp only [series_CheckCalibration_L2, idx_of hx, hlt, decide_true, if_true, Option.bind_some, within_s, series_number]
  unfold endErr num
  have e1 : i64 ((k : Int) + 1) = (k : Int) + 1 := i64_id (by omega) (by omega)
  rw [e1]
  cases h1 : wi (i64 (i64 (x.A_ * x.From) + x.B)) (-1125899906842624) 1125899906842624 <;> cases h2 : wi (i64 (i64 (x.A_ * x.To) + x.B)) (-1125899906842624) 1125899906842624 <;> simp [h1, h2]
theorem cal_L2' (c : api_Calibration) : ref5_CheckCalibration_L2 c = series_CheckCalibration_L2 c := by
  funext i
  simp only [ref5_CheckCalibration_L2, series_CheckCalibration_L2, outside_s, within_s, Option.bind_some, series_number]
  congr 1
  congr 1
  funext x
  cases h1 : wi (i64 (i64 (x.A_ * x.From) + x.B)) (-1125899906842624) 1125899906842624 <;> cases h2 : wi (i64 (i64 (x.A_ * x.To) + x.B)) (-1125899906842624) 1125899906842624 <;> simp [h1, h2]
def chkC (c : api_Calibration) : Int :=
  if !(wi c.Den 1 1000000) then 9 else if c.Lines.length = 0 then 13 else if 50 < c.Lines.length then 3 else
  (match errL lineErr none c.Lines with
   | some e => e
   | none => (match findL endErr c.Lines with
     | some e => e
     | none => if !(wi c.Low (-1125899906842624) 1125899906842624 && wi c.High (-1125899906842624) 1125899906842624 && decide (c.Low ≤ c.High)) then 9 else 0))
theorem CheckCal_s (c : api_Calibration) : series_CheckCalibration c = some (chkC c) := by
  unfold series_CheckCalibration chkC
  simp only [within_s, Option.bind_some]
  cases h1 : wi c.Den 1 1000000 with
  | false => simp
  | true =>
    by_cases h2 : c.Lines.length = 0
    · simp [h2]
    · have h2' : ¬ (c.Lines.length : Int) = 0 := by omega
      by_cases h3 : 50 < c.Lines.length
      · have h3' : (50 : Int) < c.Lines.length := by omega
        simp [h2, h2', h3, h3']
      · have h3' : ¬ (50 : Int) < c.Lines.length := by omega
        rw [cal_L1 c (by omega), cal_L2 c (by omega)]
        cases errL lineErr none c.Lines with
        | some e => simp [h2, h2', h3, h3']
        | none =>
          cases findL endErr c.Lines with
          | some e => simp [h2, h2', h3, h3']
          | none =>
            by_cases h4 : c.High < c.Low
            · have h4' : ¬ c.Low ≤ c.High := by omega
              cases wi c.Low (-1125899906842624) 1125899906842624 <;> cases wi c.High (-1125899906842624) 1125899906842624 <;> simp [h2, h2', h3, h3', h4, h4']
            · have h4' : c.Low ≤ c.High := by omega
              cases wi c.Low (-1125899906842624) 1125899906842624 <;> cases wi c.High (-1125899906842624) 1125899906842624 <;> simp [h2, h2', h3, h3', h4, h4']
theorem rCheckCal_s (c : api_Calibration) : ref5_CheckCalibration c = some (chkC c) := by
  rw [← CheckCal_s]
  unfold ref5_CheckCalibration series_CheckCalibration
  simp only [cal_L1', cal_L2', within_s, outside_s, Option.bind_some]
  cases wi c.Low (-1125899906842624) 1125899906842624 <;> cases wi c.High (-1125899906842624) 1125899906842624 <;> simp
/-- The lines of a good calibration do not overlap. -/
theorem cal_ok {c : api_Calibration} (h : chkC c = 0) : (c.Lines.length ≤ 50) ∧ (∀ (k : Nat) x, c.Lines[k]? = some x → x.From ≤ x.To) ∧ ∀ (i j : Nat) x y, i < j → c.Lines[i]? = some x → c.Lines[j]? = some y → x.To < y.From := by
  unfold chkC at h
  split at h
  · cases h
  · split at h
    · cases h
    · split at h
      · cases h
      · rename_i h3
        cases he : errL lineErr none c.Lines with
        | some e =>
          rw [he] at h
          simp only at h
          exfalso
          subst h
          have : ∀ (p : Option Lin) xs, errL lineErr p xs ≠ some 0 := by
            intro p xs
            induction xs generalizing p with
            | nil => simp [errL]
            | cons x tl ih =>
              simp only [errL]
              cases hl : lineErr p x with
              | none => exact ih _
              | some e =>
                simp only [lineErr] at hl
                split at hl
                · cases hl; simp
                · cases p with
                  | none => cases hl
                  | some q =>
                    simp only at hl
                    split at hl
                    · cases hl; simp
                    · cases hl
          exact this _ _ he
        | none =>
          have hn := errL_none he
          have h1 : ∀ (k : Nat) x, c.Lines[k]? = some x → x.From ≤ x.To := by
            intro k x hx
            have := hn k x hx
            simp only [lineErr] at this
            split at this
            · cases this
            · rename_i hb
              simp only [Bool.not_eq_true', Bool.not_eq_false, Bool.and_eq_true, decide_eq_true_iff] at hb
              exact hb.1.1.2
          have h2 : ∀ (k : Nat) x y, c.Lines[k]? = some x → c.Lines[k + 1]? = some y → x.To < y.From := by
            intro k x y hx hy
            have := hn (k + 1) y hy
            rw [if_neg (by omega)] at this
            rw [show k + 1 - 1 = k by omega, hx] at this
            simp only [lineErr] at this
            split at this
            · cases this
            · split at this
              · cases this
              · omega
          refine ⟨by omega, h1, ?_⟩
          intro i j x y hij hx hy
          obtain ⟨d, rfl⟩ : ∃ d, j = i + 1 + d := ⟨j - i - 1, by omega⟩
          induction d generalizing y with
          | zero => exact h2 i x y hx (by simpa using hy)
          | succ d ih =>
            obtain ⟨z, hz⟩ := get_ex (xs := c.Lines) (k := i + 1 + d) (by have := (List.getElem?_eq_some_iff.1 hy).1; omega)
            have e1 := ih z (by omega) hz
            have e2 := h2 (i + 1 + d) z y hz (by simpa [Nat.add_assoc] using hy)
            have e3 := h1 _ z hz
            omega
/-- What a value means. -/
def hit (c : api_Calibration) (v : Int) (x : Lin) : Option (Int × Bool) := if wi v x.From x.To && wi (num x v) c.Low c.High then some (num x v, true) else none
def mean (c : api_Calibration) (v : Int) : Int × Bool := (findL (hit c v) c.Lines).getD (0, false)
theorem apply_s (c : api_Calibration) (v : Int) (h : c.Lines.length ≤ 50) : series_apply c v = some (mean c v) := by
  unfold series_apply mean
  rw [loop_find (xs := c.Lines) (body := series_apply_L1 c v) (hit c v) (fun e => Sum.inl e) (Sum.inr ()) (fun k x hx => ?_) (by simp [series_apply_L1])]
  · cases findL (hit c v) c.Lines <;> simp
  · have hlt := lt_of hx
    simp only [series_apply_L1, idx_of hx, hlt, decide_true, if_true, Option.bind_some, within_s, series_number]
    unfold hit num
    have e1 : i64 ((k : Int) + 1) = (k : Int) + 1 := i64_id (by omega) (by omega)
    rw [e1]
    cases h1 : wi v x.From x.To <;> cases h2 : wi (i64 (i64 (x.A_ * v) + x.B)) c.Low c.High <;> simp [h1, h2]
def rhit (c : api_Calibration) (v : Int) (x : Lin) : Option (Int × Bool) := if wi v x.From x.To then some (if wi (num x v) c.Low c.High then (num x v, true) else (0, false)) else none
theorem rapply_s {c : api_Calibration} (v : Int) (h : chkC c = 0) : ref5_apply c v = some (mean c v) := by
  obtain ⟨hl, h1, h2⟩ := cal_ok h
  have hr : ref5_apply c v = some ((findL (rhit c v) c.Lines).getD (0, false)) := by
    unfold ref5_apply
    rw [loop_find (xs := c.Lines) (body := ref5_apply_L1 c v) (rhit c v) (fun e => Sum.inl e) (Sum.inr ()) (fun k x hx => ?_) (by simp [ref5_apply_L1])]
    · cases findL (rhit c v) c.Lines <;> simp
    · have hlt := lt_of hx
      simp only [ref5_apply_L1, idx_of hx, hlt, decide_true, if_true, Option.bind_some, outside_s]
      unfold rhit num
      have e1 : i64 ((k : Int) + 1) = (k : Int) + 1 := i64_id (by omega) (by omega)
      rw [e1]
      have e2 : (decide (x.From ≤ v) && decide (v ≤ x.To)) = wi v x.From x.To := rfl
      rw [e2]
      cases h1 : wi v x.From x.To <;> cases h2 : wi (i64 (i64 (x.A_ * v) + x.B)) c.Low c.High <;> simp [h1, h2]
  rw [hr]
  unfold mean
  congr 1
  have key : ∀ xs : List Lin, (∀ (i j : Nat) x y, i < j → xs[i]? = some x → xs[j]? = some y → x.To < y.From) → (findL (rhit c v) xs).getD (0, false) = (findL (hit c v) xs).getD (0, false) := by
    intro xs
    induction xs with
    | nil => intro _; rfl
    | cons x tl ih =>
      intro hs
      simp only [findL, rhit, hit]
      cases e1 : wi v x.From x.To with
      | false =>
        simp only [Bool.false_and, Bool.false_eq_true, if_false]
        exact ih fun i j a b hij ha hb => hs (i + 1) (j + 1) a b (by omega) (by simpa using ha) (by simpa using hb)
      | true =>
        cases e2 : wi (num x v) c.Low c.High with
        | true => simp
        | false =>
          simp only [Bool.and_false, Bool.false_eq_true, if_true, if_false, Option.getD_some]
          have : ∀ ys : List Lin, (∀ y ∈ ys, x.To < y.From) → findL (hit c v) ys = none := by
            intro ys
            induction ys with
            | nil => intro _; rfl
            | cons y tl ih =>
              intro hy
              have h3 := hy y (by simp)
              simp only [wi_iff] at e1
              have : wi v y.From y.To = false := by
                cases hw : wi v y.From y.To with
                | false => rfl
                | true => simp only [wi_iff] at hw; omega
              simp only [findL, hit, this, Bool.false_and, Bool.false_eq_true, if_false]
              exact ih fun z hz => hy z (by simp [hz])
          rw [this tl]
          · rfl
          · intro y hy
            obtain ⟨j, hj⟩ := List.getElem?_of_mem hy
            exact hs 0 (j + 1) x y (by omega) rfl (by simpa using hj)
  exact key _ h2
end Go.Vx

namespace Go.Vx
open Go Go.RowKit
/-! ## Calibrate -/
theorem mean_f {c : api_Calibration} {v : Int} (h : (mean c v).2 = false) : (mean c v).1 = 0 := by
  unfold mean at h ⊢
  have : ∀ xs : List Lin, ∀ r, findL (hit c v) xs = some r → r.2 = true := by
    intro xs
    induction xs with
    | nil => intro r hr; cases hr
    | cons x tl ih =>
      intro r hr
      simp only [findL] at hr
      cases hx : hit c v x with
      | none => rw [hx] at hr; exact ih r hr
      | some q =>
        rw [hx] at hr
        cases hr
        unfold hit at hx
        split at hx
        · cases hx; rfl
        · cases hx
  cases hf : findL (hit c v) c.Lines with
  | none => rfl
  | some r =>
    rw [hf] at h
    have := this _ _ hf
    simp [this] at h
def calS (c : api_Calibration) (x : Smp) : Smp := if x.Mark < 2 then x else ⟨x.At, (mean c x.N).1, if (mean c x.N).2 then x.Mark else 1⟩
def outCal (s : api_Series) (c : api_Calibration) : api_Series × Int :=
  if (chk s).2 ≠ 0 then bad (chk s).2 else if chkC c ≠ 0 then bad (chkC c) else if s.Den ≠ 1 then bad 2 else (⟨c.Den, s.Samples.map (calS c)⟩, 0)
theorem cal_loop {s : api_Series} {c : api_Calibration} (hs : SerOK s) (hc : chkC c = 0) : loop (t2 (series_Calibrate_L1 c s.Samples)) (s.Samples, 0) = some (s.Samples.map (calS c)) := by
  have hl := hs.len
  refine loop_set (xs := s.Samples) (body := series_Calibrate_L1 c s.Samples) (calS c) (fun k x acc hx ha hax => ?_) (fun acc => by simp [series_Calibrate_L1])
  have hlt := lt_of hx
  have e1 : i64 ((k : Int) + 1) = (k : Int) + 1 := i64_id (by omega) (by omega)
  simp only [series_Calibrate_L1, hlt, decide_true, if_true, idx_of hax, Option.bind_some, e1, apply_s c x.N (cal_ok hc).1]
  unfold calS
  by_cases h : x.Mark < 2
  · refine ⟨acc, by simp [h], ?_⟩
    rw [if_pos h]
    obtain ⟨hk, he⟩ := List.getElem?_eq_some_iff.1 hax
    rw [← he, List.set_getElem_self]
  · rw [if_neg h]
    cases hm : (mean c x.N).2 with
    | true => exact ⟨_, by simp [h], rfl⟩
    | false => exact ⟨acc.set k ⟨x.At, 0, 1⟩, by simp [h], by rw [mean_f hm]; rfl⟩
theorem rcal_loop {s : api_Series} {c : api_Calibration} (hs : SerOK s) (hc : chkC c = 0) : loop (t2 (ref5_Meant_L1 s c)) ([], 0) = some (s.Samples.map (calS c)) := by
  have hl := hs.len
  refine loop_map (xs := s.Samples) (body := ref5_Meant_L1 s c) (calS c) (fun k x acc hx ha => ?_) (fun acc => by simp [ref5_Meant_L1])
  have hlt := lt_of hx
  have e1 : i64 ((k : Int) + 1) = (k : Int) + 1 := i64_id (by omega) (by omega)
  have ea : ∀ z : Smp, app acc [z] = some (acc ++ [z]) := fun z => app_of (by simp; omega)
  simp only [ref5_Meant_L1, hlt, decide_true, if_true, idx_of hx, Option.bind_some, e1, rapply_s x.N hc]
  unfold calS ref5_numbered
  by_cases h : x.Mark < 2
  · have h' : ¬ 2 ≤ x.Mark := by omega
    simp [h, h', ea]
  · have h' : 2 ≤ x.Mark := by omega
    cases hm : (mean c x.N).2 <;> simp [h, h', ea, hm]
theorem Calibrate_s (s : api_Series) (c : api_Calibration) : series_Calibrate s c = some (outCal s c) := by
  unfold series_Calibrate outCal bad
  simp only [Check_s, CheckCal_s, Option.bind_some]
  by_cases h0 : (chk s).2 = 0
  · by_cases h1 : chkC c = 0
    · by_cases h2 : s.Den = 1
      · have hl := (ser_ok h0).len
        have ec : clone s.Samples = some s.Samples := by unfold clone; rw [app_of (by simp; omega)]; rfl
        simp [h0, h1, h2, ec, cal_loop (ser_ok h0) h1]
      · simp [h0, h1, h2]
    · simp [h0, h1]
  · simp [h0]
theorem rCalibrate_s (s : api_Series) (c : api_Calibration) : ref5_Calibrate s c = some (outCal s c) := by
  unfold ref5_Calibrate outCal bad
  simp only [rCheck_s, rCheckCal_s, Option.bind_some]
  by_cases h0 : (chk s).2 = 0
  · by_cases h1 : chkC c = 0
    · by_cases h2 : s.Den = 1
      · simp [h0, h1, h2, ref5_Meant, rcal_loop (ser_ok h0) h1]
      · simp [h0, h1, h2]
    · simp [h0, h1]
  · simp [h0]
theorem outCal_len (s : api_Series) (c : api_Calibration) : (outCal s c).1.Samples.length ≤ 1048576 := by
  unfold outCal bad
  by_cases h0 : (chk s).2 = 0
  · have hl := (ser_ok h0).len
    by_cases h1 : chkC c = 0
    · by_cases h2 : s.Den = 1
      · simp [h0, h1, h2]; omega
      · simp [h0, h1, h2]
    · simp [h0, h1]
  · simp [h0]
theorem law_Calibrate (s : api_Series) (c : api_Calibration) : law5_SeriesCalibrateMatchesSpec s c = some true := by
  simp only [law5_SeriesCalibrateMatchesSpec, Calibrate_s, rCalibrate_s, Option.bind_some]
  obtain ⟨t, ht⟩ := told_t (outCal s c).1 (outCal s c).2 (outCal_len s c)
  simp [ht, holds_s]
end Go.Vx
