/- A text of the proof: a verified executor of the program form, or the contracts of the functions that the law reaches. -/
import Derived.Test.YtecdkapjjhkanaaDoorPu
import Derived.Test.YtecdkapjjhkanaaDoorShT
set_option linter.all false
namespace Go.Vx
open Go Go.RowKit
/-! ## Series: checks and Hold -/
abbrev Smp := api_Sample
def wi (n lo hi : Int) : Bool := decide (lo ≤ n) && decide (n ≤ hi)
theorem within_s (n a b : Int) : series_within n a b = some (wi n a b) := rfl
theorem outside_s (n a b : Int) : ref5_outside n a b = some (!wi n a b) := by
  simp only [ref5_outside, wi, Option.some.injEq]
  rw [Bool.eq_iff_iff]; simp [Int.not_le]
theorem wi_iff {n a b : Int} : wi n a b = true ↔ a ≤ n ∧ n ≤ b := by simp [wi]
theorem wi_f {n a b : Int} (h : wi n a b = false) : n < a ∨ b < n := by
  simp only [wi, Bool.and_eq_false_iff, decide_eq_false_iff_not] at h; omega
def smpErr (x : Smp) : Option Int := if !(wi x.At 0 1099511627776 && wi x.N (-1125899906842624) 1125899906842624 && wi x.Mark 0 4) then some 9 else if !decide (x.N = 0) && decide (x.Mark ≤ 1) then some 2 else none
def prev (xs : List Smp) (k : Nat) : Option Smp := if k = 0 then none else xs[k - 1]?
def ordErr (p : Option Smp) (x : Smp) : Bool := match p with | none => false | some q => decide (x.At ≤ q.At)
def chkL : Option Smp → Nat → List Smp → Int × Int
  | _, _, [] => (-1, 0)
  | p, k, x :: tl => match smpErr x with | some e => ((k : Int), e) | none => if ordErr p x then ((k : Int), 10) else chkL (some x) (k + 1) tl
def chk (s : api_Series) : Int × Int := if wi s.Den 1 1000000 then (if (s.Samples.length : Int) ≤ 20000 then chkL none 0 s.Samples else (-1, 3)) else (-1, 9)
theorem prev_succ {xs : List Smp} {k : Nat} {x : Smp} (h : xs[k]? = some x) : prev xs (k + 1) = some x := by simp [prev, h]
theorem prev_pos {xs : List Smp} {k : Nat} (hk : 0 < k) (h : k ≤ xs.length) : ∃ y, xs[k - 1]? = some y ∧ prev xs k = some y ∧ idx xs ((k : Int) - 1) = some y := by
  obtain ⟨y, hy⟩ := get_ex (xs := xs) (k := k - 1) (by omega)
  refine ⟨y, hy, by simp [prev, hy]; omega, ?_⟩
  have : ((k : Int) - 1) = ((k - 1 : Nat) : Int) := by omega
  rw [this, idx_of hy]
theorem check_loop (s : api_Series) (h : (s.Samples.length : Int) ≤ 20000) :
    loop (t1 (series_check_L1 s)) 0 = some ((fun r : Int × Int => if r.2 = 0 then Sum.inr () else Sum.inl r) (chkL none 0 s.Samples)) := by
  refine loop_ix1 (xs := s.Samples) (fun k => (fun r : Int × Int => if r.2 = 0 then Sum.inr () else Sum.inl r) (chkL (prev s.Samples k) k (s.Samples.drop k))) (fun k x hx => ?_) ?_
  · have hlt := lt_of hx
    rw [drop_cons hx, chkL]
    simp only [series_check_L1, idx_of hx, hlt, decide_true, if_true, Option.bind_some, within_s]
    by_cases hb : (wi x.At 0 1099511627776 && wi x.N (-1125899906842624) 1125899906842624 && wi x.Mark 0 4) = true
    · simp only [Bool.and_eq_true] at hb
      obtain ⟨⟨h1, h2⟩, h3⟩ := hb
      by_cases hh : (!decide (x.N = 0) && decide (x.Mark ≤ 1)) = true
      · right
        simp [smpErr, h1, h2, h3, hh]
      · have hs : smpErr x = none := by simp only [smpErr, h1, h2, h3]; simp [hh]
        rw [hs]
        rcases Nat.eq_zero_or_pos k with rfl | hk
        · left
          simp [h1, h2, h3, hh, i64_id, prev, ordErr, hx]
        · obtain ⟨y, hy, hp, hi⟩ := prev_pos (xs := s.Samples) hk (by omega)
          have hk' : (0 : Int) < k := by omega
          rw [hp]
          have hw : IntKind.i64.wrap ((k : Int) - 1) = (k : Int) - 1 := i64_id (by omega) (by omega)
          have hw2 : IntKind.i64.wrap ((k : Int) + 1) = (k : Int) + 1 := i64_id (by omega) (by omega)
          by_cases ho : x.At ≤ y.At
          · right; simp [h1, h2, h3, hh, hw, hi, hk, ordErr, ho]
          · left; simp [h1, h2, h3, hh, hw, hw2, hi, hk, ordErr, ho, prev_succ hx]
    · right
      have hs : smpErr x = some 9 := by
        simp only [smpErr]
        rw [if_pos (by cases h1 : wi x.At 0 1099511627776 <;> cases h2 : wi x.N (-1125899906842624) 1125899906842624 <;> cases h3 : wi x.Mark 0 4 <;> simp_all)]
      rw [hs]
      simp only [Bool.and_eq_true, not_and, Bool.not_eq_true] at hb
      cases h1 : wi x.At 0 1099511627776 <;> cases h2 : wi x.N (-1125899906842624) 1125899906842624 <;> cases h3 : wi x.Mark 0 4 <;> simp_all
  · simp [series_check_L1, List.drop_length, chkL]
theorem chkL_cases : ∀ (p : Option Smp) (k : Nat) (xs : List Smp), chkL p k xs = (-1, 0) ∨ (chkL p k xs).2 ≠ 0
  | _, _, [] => .inl rfl
  | p, k, x :: tl => by
    rw [chkL]
    split
    · rename_i e he; right; unfold smpErr at he; split at he
      · cases he; simp
      · split at he <;> cases he; simp
    · split
      · right; simp
      · exact chkL_cases _ _ tl
theorem check_s (s : api_Series) : series_check s = some (chk s) := by
  simp only [series_check, within_s, Option.bind_some, chk]
  cases hd : wi s.Den 1 1000000 with
  | false => simp
  | true =>
    by_cases hl : (s.Samples.length : Int) ≤ 20000
    · rw [check_loop s hl]
      simp only [show ¬ 20000 < (s.Samples.length : Int) by omega, hl, decide_false, if_true, if_false, Bool.not_true, Option.bind_some, Bool.false_eq_true]
      rcases chkL_cases none 0 s.Samples with h | h
      · simp [h]
      · simp [h]
    · simp [hl, show 20000 < (s.Samples.length : Int) by omega]
theorem fault_step (x : Smp) : ref5_sampleFault x = some ((smpErr x).getD 0) := by
  simp only [ref5_sampleFault, outside_s, Option.bind_some, ref5_numbered, smpErr]
  cases h1 : wi x.At 0 1099511627776 <;> cases h2 : wi x.N (-1125899906842624) 1125899906842624 <;> cases h3 : wi x.Mark 0 4 <;> simp
  by_cases h4 : x.N = 0 <;> by_cases h5 : x.Mark ≤ 1 <;> simp [h4, h5] <;> omega
theorem smpErr_pos {x : Smp} {e : Int} (h : smpErr x = some e) : e = 9 ∨ e = 2 := by
  unfold smpErr at h; split at h
  · cases h; simp
  · split at h <;> cases h; simp
theorem fault_loop (s : api_Series) (h : (s.Samples.length : Int) ≤ 20000) :
    loop (t1 (ref5_fault_L1 s)) 0 = some ((fun r : Int × Int => if r.2 = 0 then Sum.inr () else Sum.inl r) (chkL none 0 s.Samples)) := by
  refine loop_ix1 (xs := s.Samples) (fun k => (fun r : Int × Int => if r.2 = 0 then Sum.inr () else Sum.inl r) (chkL (prev s.Samples k) k (s.Samples.drop k))) (fun k x hx => ?_) ?_
  · have hlt := lt_of hx
    rw [drop_cons hx, chkL]
    simp only [ref5_fault_L1, idx_of hx, hlt, decide_true, if_true, Option.bind_some, fault_step]
    cases hs : smpErr x with
    | some e =>
      right
      rcases smpErr_pos hs with rfl | rfl <;> simp
    | none =>
      rcases Nat.eq_zero_or_pos k with rfl | hk
      · left
        simp [i64_id, prev, ordErr, hx]
      · obtain ⟨y, hy, hp, hi⟩ := prev_pos (xs := s.Samples) hk (by omega)
        rw [hp]
        have hw : IntKind.i64.wrap ((k : Int) - 1) = (k : Int) - 1 := i64_id (by omega) (by omega)
        have hw2 : IntKind.i64.wrap ((k : Int) + 1) = (k : Int) + 1 := i64_id (by omega) (by omega)
        by_cases ho : x.At ≤ y.At
        · right; simp [hw, hi, hk, ordErr, ho]
        · left; simp [hw, hw2, hi, hk, ordErr, ho, prev_succ hx]
  · simp [ref5_fault_L1, List.drop_length, chkL]
theorem fault_s (s : api_Series) : ref5_fault s = some (chk s) := by
  simp only [ref5_fault, outside_s, Option.bind_some, chk]
  cases hd : wi s.Den 1 1000000 with
  | false => simp
  | true =>
    by_cases hl : (s.Samples.length : Int) ≤ 20000
    · rw [fault_loop s hl]
      simp only [show ¬ 20000 < (s.Samples.length : Int) by omega, hl, decide_false, if_true, if_false, Bool.not_true, Option.bind_some, Bool.false_eq_true]
      rcases chkL_cases none 0 s.Samples with h | h
      · simp [h]
      · simp [h]
    · simp [hl, show 20000 < (s.Samples.length : Int) by omega]
theorem Check_s (s : api_Series) : series_Check s = some (chk s).2 := by simp [series_Check, check_s]
theorem rCheck_s (s : api_Series) : ref5_Check s = some (chk s).2 := by simp [ref5_Check, fault_s]

/-! what a series without error is -/
structure SerOK (s : api_Series) : Prop where
  den : 1 ≤ s.Den ∧ s.Den ≤ 1000000
  len : (s.Samples.length : Int) ≤ 20000
  at' : ∀ (k : Nat) x, s.Samples[k]? = some x → (0 ≤ x.At ∧ x.At ≤ 1099511627776) ∧ (-1125899906842624 ≤ x.N ∧ x.N ≤ 1125899906842624) ∧ (0 ≤ x.Mark ∧ x.Mark ≤ 4) ∧ (x.N ≠ 0 → 2 ≤ x.Mark)
  rise : ∀ (i j : Nat) x y, i < j → s.Samples[i]? = some x → s.Samples[j]? = some y → x.At < y.At
theorem chkL_good : ∀ (p : Option Smp) (k : Nat) (xs : List Smp), (chkL p k xs).2 = 0 →
    (∀ (j : Nat) x, xs[j]? = some x → smpErr x = none ∧ ∀ q, p = some q → q.At < x.At) ∧ (∀ (i j : Nat) x y, i < j → xs[i]? = some x → xs[j]? = some y → x.At < y.At)
  | _, _, [], _ => ⟨fun j x h => by simp at h, fun i j x y _ h => by simp at h⟩
  | p, k, x :: tl, h => by
    rw [chkL] at h
    cases hs : smpErr x with
    | some e => rw [hs] at h; rcases smpErr_pos hs with rfl | rfl <;> simp at h
    | none =>
      rw [hs] at h
      simp only at h
      split at h
      · simp at h
      · rename_i ho
        obtain ⟨h1, h2⟩ := chkL_good _ _ tl h
        have hpx : ∀ q, p = some q → q.At < x.At := fun q hq => by subst hq; simpa [ordErr] using ho
        refine ⟨fun j y hy => ?_, fun i j u v hij hu hv => ?_⟩
        · cases j with
          | zero => simp at hy; subst hy; exact ⟨hs, hpx⟩
          | succ j =>
            have hy' : tl[j]? = some y := by simpa using hy
            obtain ⟨g1, g2⟩ := h1 j y hy'
            exact ⟨g1, fun q hq => Int.lt_trans (hpx q hq) (g2 x rfl)⟩
        · cases j with
          | zero => omega
          | succ j =>
            have hv' : tl[j]? = some v := by simpa using hv
            cases i with
            | zero => simp at hu; subst hu; exact (h1 j v hv').2 x rfl
            | succ i => exact h2 i j u v (by omega) (by simpa using hu) hv'
theorem ser_ok {s : api_Series} (h : (chk s).2 = 0) : SerOK s := by
  unfold chk at h
  split at h
  · rename_i hd
    split at h
    · rename_i hl
      obtain ⟨h1, h2⟩ := chkL_good none 0 s.Samples h
      refine ⟨wi_iff.1 hd, hl, fun k x hx => ?_, h2⟩
      have := (h1 k x hx).1
      unfold smpErr at this
      split at this
      · cases this
      · rename_i hb
        split at this
        · cases this
        · rename_i hh
          simp only [Bool.not_eq_true', Bool.not_eq_false, Bool.and_eq_true, wi_iff] at hb
          simp only [Bool.and_eq_true, Bool.not_eq_true', decide_eq_false_iff_not, decide_eq_true_eq] at hh
          exact ⟨hb.1.1, hb.1.2, hb.2, fun h0 => by omega⟩
    · simp at h
  · simp at h
end Go.Vx
