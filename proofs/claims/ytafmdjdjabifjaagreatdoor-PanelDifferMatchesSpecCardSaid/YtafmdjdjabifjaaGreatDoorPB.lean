/- A text of the proof: a verified executor of the program form, or the contracts of the functions that the law reaches. -/
import Derived.Test.YtafmdjdjabifjaaGreatDoorPA
import Derived.Test.YtafmdjdjabifjaaGreatDoorShT
set_option linter.all false
namespace Go.Vx
open Go Go.RowKit
abbrev Smp := api_Sample
def wi (n lo hi : Int) : Bool := decide (lo ≤ n) && decide (n ≤ hi)
theorem within_s (n a b : Int) : series_within n a b = some (wi n a b) := rfl
theorem outside_s (n a b : Int) : ref5_outside n a b = some (!wi n a b) := by
  simp only [ref5_outside, wi, Option.some.injEq]
  rw [Bool.eq_iff_iff]; simp [Int.not_le]
theorem wi_iff {n a b : Int} : wi n a b = true ↔ a ≤ n ∧ n ≤ b := by simp [wi]
def smpErr (x : Smp) : Option Int := if !(wi x.At 0 1099511627776 && wi x.N (-1125899906842624) 1125899906842624 && wi x.Mark 0 4) then some 9 else if !decide (x.N = 0) && decide (x.Mark ≤ 1) then some 2 else none
def prev (xs : List Smp) (k : Nat) : Option Smp := if k = 0 then none else xs[k - 1]?
def ordErr (p : Option Smp) (x : Smp) : Bool := match p with | none => false | some q => decide (x.At ≤ q.At)
def chkL : Option Smp → Nat → List Smp → Int × Int
  | _, _, [] => (-1, 0)
  | p, k, x :: tl => match smpErr x with | some e => ((k : Int), e) | none => if ordErr p x then ((k : Int), 10) else chkL (some x) (k + 1) tl
def chk (s : api_Series) : Int × Int := if wi s.Den 1 1000000 then (if (s.Samples.length : Int) ≤ 20000 then chkL none 0 s.Samples else (-1, 3)) else (-1, 9)
theorem prev_succ {xs : List Smp} {k : Nat} {x : Smp} (h : xs[k]? = some x) : prev xs (k + 1) = some x := by simp [prev, h]
theorem prev_pos {xs : List Smp} {k : Nat} (hk : 0 < k) (h : k ≤ xs.length) : ∃ y, xs[k - 1]? = some y ∧ prev xs k = some y ∧ idx xs ((k : Int) - 1) = some y := by
  obtain ⟨y, hy⟩ := get_ex (xs := xs) (k := k - 1) (by omega)
  refine ⟨y, hy, by simp [prev, hy]; omega, ?_⟩
  have : ((k : Int) - 1) = ((k - 1 : Nat) : Int) := by omega
  rw [this, idx_of hy]
theorem check_loop (s : api_Series) (h : (s.Samples.length : Int) ≤ 20000) :
    loop (t1 (series_check_L1 s)) 0 = some ((fun r : Int × Int => if r.2 = 0 then Sum.inr () else Sum.inl r) (chkL none 0 s.Samples)) := by
  refine loop_ix1 (xs := s.Samples) (fun k => (fun r : Int × Int => if r.2 = 0 then Sum.inr () else Sum.inl r) (chkL (prev s.Samples k) k (s.Samples.drop k))) (fun k x hx => ?_) ?_
  · have hlt := lt_of hx
    rw [drop_cons hx, chkL]
    simp only [series_check_L1, idx_of hx, hlt, decide_true, if_true, Option.bind_some, within_s]
    by_cases hb : (wi x.At 0 1099511627776 && wi x.N (-1125899906842624) 1125899906842624 && wi x.Mark 0 4) = true
    · simp only [Bool.and_eq_true] at hb
      obtain ⟨⟨h1, h2⟩, h3⟩ := hb
      by_cases hh : (!decide (x.N = 0) && decide (x.Mark ≤ 1)) = true
      · right
        simp [smpErr, h1, h2, h3, hh]
      · have hs : smpErr x = none := by simp only [smpErr, h1, h2, h3]; simp [hh]
        rw [hs]
        rcases Nat.eq_zero_or_pos k with rfl | hk
        · left
          simp [h1, h2, h3, hh, i64_id, prev, ordErr, hx]
        · obtain ⟨y, hy, hp, hi⟩ := prev_pos (xs := s.Samples) hk (by omega)
          have hk' : (0 : Int) < k := by omega
          rw [hp]
          have hw : IntKind.i64.wrap ((k : Int) - 1) = (k : Int) - 1 := i64_id (by omega) (by omega)
          have hw2 : IntKind.i64.wrap ((k : Int) + 1) = (k : Int) + 1 := i64_id (by omega) (by omega)
          by_cases ho : x.At ≤ y.At
          · right; simp [h1, h2, h3, hh, hw, hi, hk, ordErr, ho]
          · left; simp [h1, h2, h3, hh, hw, hw2, hi, hk, ordErr, ho, prev_succ hx]
    · right
      have hs : smpErr x = some 9 := by
        simp only [smpErr]
        rw [if_pos (by cases h1 : wi x.At 0 1099511627776 <;> cases h2 : wi x.N (-1125899906842624) 1125899906842624 <;> cases h3 : wi x.Mark 0 4 <;> simp_all)]
      rw [hs]
      simp only [Bool.and_eq_true, not_and, Bool.not_eq_true] at hb
      cases h1 : wi x.At 0 1099511627776 <;> cases h2 : wi x.N (-1125899906842624) 1125899906842624 <;> cases h3 : wi x.Mark 0 4 <;> simp_all
  · simp [series_check_L1, List.drop_length, chkL]
theorem chkL_cases : ∀ (p : Option Smp) (k : Nat) (xs : List Smp), chkL p k xs = (-1, 0) ∨ (chkL p k xs).2 ≠ 0
  | _, _, [] => .inl rfl
  | p, k, x :: tl => by
    rw [chkL]
    split
    · rename_i e he; right; unfold smpErr at he; split at he
      · cases he; simp
      · split at he <;> cases he; simp
    · split
      · right; simp
      · exact chkL_cases _ _ tl
theorem check_s (s : api_Series) : series_check s = some (chk s) := by
  simp only [series_check, within_s, Option.bind_some, chk]
  cases hd : wi s.Den 1 1000000 with
  | false => simp
  | true =>
    by_cases hl : (s.Samples.length : Int) ≤ 20000
    · rw [check_loop s hl]
      simp only [show ¬ 20000 < (s.Samples.length : Int) by omega, hl, decide_false, if_true, if_false, Bool.not_true, Option.bind_some, Bool.false_eq_true]
      rcases chkL_cases none 0 s.Samples with h | h
      · simp [h]
      · simp [h]
    · simp [hl, show 20000 < (s.Samples.length : Int) by omega]
theorem fault_step (x : Smp) : ref5_sampleFault x = some ((smpErr x).getD 0) := by
  simp only [ref5_sampleFault, outside_s, Option.bind_some, ref5_numbered, smpErr]
  cases h1 : wi x.At 0 1099511627776 <;> cases h2 : wi x.N (-1125899906842624) 1125899906842624 <;> cases h3 : wi x.Mark 0 4 <;> simp
  by_cases h4 : x.N = 0 <;> by_cases h5 : x.Mark ≤ 1 <;> simp [h4, h5] <;> omega
theorem smpErr_pos {x : Smp} {e : Int} (h : smpErr x = some e) : e = 9 ∨ e = 2 := by
  unfold smpErr at h; split at h
  · cases h; simp
  · split at h <;> cases h; simp
theorem fault_loop (s : api_Series) (h : (s.Samples.length : Int) ≤ 20000) :
    loop (t1 (ref5_fault_L1 s)) 0 = some ((fun r : Int × Int => if r.2 = 0 then Sum.inr () else Sum.inl r) (chkL none 0 s.Samples)) := by
  refine loop_ix1 (xs := s.Samples) (fun k => (fun r : Int × Int => if r.2 = 0 then Sum.inr () else Sum.inl r) (chkL (prev s.Samples k) k (s.Samples.drop k))) (fun k x hx => ?_) ?_
  · have hlt := lt_of hx
    rw [drop_cons hx, chkL]
    simp only [ref5_fault_L1, idx_of hx, hlt, decide_true, if_true, Option.bind_some, fault_step]
    cases hs : smpErr x with
    | some e =>
      right
      rcases smpErr_pos hs with rfl | rfl <;> simp
    | none =>
      rcases Nat.eq_zero_or_pos k with rfl | hk
      · left
        simp [i64_id, prev, ordErr, hx]
      · obtain ⟨y, hy, hp, hi⟩ := prev_pos (xs := s.Samples) hk (by omega)
        rw [hp]
        have hw : IntKind.i64.wrap ((k : Int) - 1) = (k : Int) - 1 := i64_id (by omega) (by omega)
        have hw2 : IntKind.i64.wrap ((k : Int) + 1) = (k : Int) + 1 := i64_id (by omega) (by omega)
        by_cases ho : x.At ≤ y.At
        · right; simp [hw, hi, hk, ordErr, ho]
        · left; simp [hw, hw2, hi, hk, ordErr, ho, prev_succ hx]
  · simp [ref5_fault_L1, List.drop_length, chkL]
theorem fault_s (s : api_Series) : ref5_fault s = some (chk s) := by
  simp only [ref5_fault, outside_s, Option.bind_some, chk]
  cases hd : wi s.Den 1 1000000 with
  | false => simp
  | true =>
    by_cases hl : (s.Samples.length : Int) ≤ 20000
    · rw [fault_loop s hl]
      simp only [show ¬ 20000 < (s.Samples.length : Int) by omega, hl, decide_false, if_true, if_false, Bool.not_true, Option.bind_some, Bool.false_eq_true]
      rcases chkL_cases none 0 s.Samples with h | h
      · simp [h]
      · simp [h]
    · simp [hl, show 20000 < (s.Samples.length : Int) by omega]
theorem Check_s (s : api_Series) : series_Check s = some (chk s).2 := by simp [series_Check, check_s]
theorem rCheck_s (s : api_Series) : ref5_Check s = some (chk s).2 := by simp [ref5_Check, fault_s]

structure SerOK (s : api_Series) : Prop where
  den : 1 ≤ s.Den ∧ s.Den ≤ 1000000
  len : (s.Samples.length : Int) ≤ 20000
  at' : ∀ (k : Nat) x, s.Samples[k]? = some x → (0 ≤ x.At ∧ x.At ≤ 1099511627776) ∧ (-1125899906842624 ≤ x.N ∧ x.N ≤ 1125899906842624) ∧ (0 ≤ x.Mark ∧ x.Mark ≤ 4) ∧ (x.N ≠ 0 → 2 ≤ x.Mark)
  rise : ∀ (i j : Nat) x y, i < j → s.Samples[i]? = some x → s.Samples[j]? = some y → x.At < y.At
theorem chkL_good : ∀ (p : Option Smp) (k : Nat) (xs : List Smp), (chkL p k xs).2 = 0 →
    (∀ (j : Nat) x, xs[j]? = some x → smpErr x = none ∧ ∀ q, p = some q → q.At < x.At) ∧ (∀ (i j : Nat) x y, i < j → xs[i]? = some x → xs[j]? = some y → x.At < y.At)
  | _, _, [], _ => ⟨fun j x h => by simp at h, fun i j x y _ h => by simp at h⟩
  | p, k, x :: tl, h => by
    rw [chkL] at h
    cases hs : smpErr x with
    | some e => rw [hs] at h; rcases smpErr_pos hs with rfl | rfl <;> simp at h
    | none =>
      rw [hs] at h
      simp only at h
      split at h
      · simp at h
      · rename_i ho
        obtain ⟨h1, h2⟩ := chkL_good _ _ tl h
        have hpx : ∀ q, p = some q → q.At < x.At := fun q hq => by subst hq; simpa [ordErr] using ho
        refine ⟨fun j y hy => ?_, fun i j u v hij hu hv => ?_⟩
        · cases j with
          | zero => simp at hy; subst hy; exact ⟨hs, hpx⟩
          | succ j =>
            have hy' : tl[j]? = some y := by simpa using hy
            obtain ⟨g1, g2⟩ := h1 j y hy'
            exact ⟨g1, fun q hq => Int.lt_trans (hpx q hq) (g2 x rfl)⟩
        · cases j with
          | zero => omega
          | succ j =>
            have hv' : tl[j]? = some v := by simpa using hv
            cases i with
            | zero => simp at hu; subst hu; exact (h1 j v hv').2 x rfl
            | succ i => exact h2 i j u v (by omega) (by simpa using hu) hv'
theorem ser_ok {s : api_Series} (h : (chk s).2 = 0) : SerOK s := by
  unfold chk at h
  split at h
  · rename_i hd
    split at h
    · rename_i hl
      obtain ⟨h1, h2⟩ := chkL_good none 0 s.Samples h
      refine ⟨wi_iff.1 hd, hl, fun k x hx => ?_, h2⟩
      have := (h1 k x hx).1
      unfold smpErr at this
      split at this
      · cases this
      · rename_i hb
        split at this
        · cases this
        · rename_i hh
          simp only [Bool.not_eq_true', Bool.not_eq_false, Bool.and_eq_true, wi_iff] at hb
          simp only [Bool.and_eq_true, Bool.not_eq_true', decide_eq_false_iff_not, decide_eq_true_eq] at hh
          exact ⟨hb.1.1, hb.1.2, hb.2, fun h0 => by omega⟩
    · simp at h
  · simp at h
end Go.Vx

namespace Go.Vx
open Go Go.RowKit
def cntLe (xs : List Smp) (t : Int) : Nat := xs.countP fun x => decide (x.At ≤ t)
theorem cnt_split : ∀ (xs : List Smp) (t : Int), (∀ (i j : Nat) x y, i < j → xs[i]? = some x → xs[j]? = some y → x.At < y.At) →
    (∀ (k : Nat) x, k < cntLe xs t → xs[k]? = some x → x.At ≤ t) ∧ (∀ (k : Nat) x, cntLe xs t ≤ k → xs[k]? = some x → t < x.At)
  | [], _, _ => ⟨fun k x h => by simp [cntLe] at h, fun k x _ h => by simp at h⟩
  | x :: tl, t, hr => by
    obtain ⟨h1, h2⟩ := cnt_split tl t fun i j u v hij hu hv => hr (i + 1) (j + 1) u v (by omega) (by simpa using hu) (by simpa using hv)
    have hx : ∀ (j : Nat) y, tl[j]? = some y → x.At < y.At := fun j y hy => hr 0 (j + 1) x y (by omega) rfl (by simpa using hy)
    by_cases hc : x.At ≤ t
    · have e : cntLe (x :: tl) t = cntLe tl t + 1 := by simp [cntLe, hc]
      rw [e]
      refine ⟨fun k y hk hy => ?_, fun k y hk hy => ?_⟩
      · cases k with
        | zero => simp at hy; subst hy; exact hc
        | succ k => exact h1 k y (by omega) (by simpa using hy)
      · cases k with
        | zero => omega
        | succ k => exact h2 k y (by omega) (by simpa using hy)
    · have e0 : cntLe tl t = 0 := by
        unfold cntLe
        rw [List.countP_eq_zero]
        intro y hy
        obtain ⟨j, hj⟩ := List.mem_iff_getElem?.1 hy
        have := hx j y hj
        simp; omega
      have e : cntLe (x :: tl) t = 0 := by
        have : cntLe (x :: tl) t = cntLe tl t := by simp [cntLe, hc]
        rw [this, e0]
      rw [e]
      refine ⟨fun k y hk _ => by omega, fun k y _ hy => ?_⟩
      cases k with
      | zero => simp at hy; subst hy; omega
      | succ k => have := hx k y (by simpa using hy); omega
theorem cnt_le (xs : List Smp) (t : Int) : cntLe xs t ≤ xs.length := List.countP_le_length
def lastLe (xs : List Smp) (t : Int) : Option Smp := if cntLe xs t = 0 then none else xs[cntLe xs t - 1]?
def heldAt (xs : List Smp) (t long : Int) : Option Smp := (lastLe xs t).bind fun x => if 3 ≤ x.Mark ∧ t - x.At ≤ long then some x else none
def z0 : Smp := api_Sample.mk 0 0 0
def outH (o : Option Smp) : Smp × Bool := match o with | some x => (x, true) | none => (z0, false)

theorem search_halves {ρ : Type} {body : Int → Int → Option ((Int × Int) ⊕ ρ)} (n c : Nat) (F : Nat → ρ) (hc : c ≤ n) (hn : n ≤ 4611686018427387904)
    (hstep : ∀ (i j m : Nat), i < j → j ≤ n → m = (i + j) / 2 → (m < c → body i j = some (.inl ((m : Int) + 1, j))) ∧ (c ≤ m → body i j = some (.inl (i, (m : Int)))))
    (hend : ∀ i : Nat, body i i = some (.inr (F i))) : loop (t2 body) (0, (n : Int)) = some (F c) := by
  refine loop_to (body := t2 body) (fun p => ∃ i j : Nat, p = ((i : Int), (j : Int)) ∧ i ≤ c ∧ c ≤ j ∧ j ≤ n) (fun p => (p.2 - p.1).toNat) (fun _ => F c) ?_ _ ⟨0, n, rfl, Nat.zero_le _, hc, Nat.le_refl _⟩
  rintro _ ⟨i, j, rfl, h1, h2, h3⟩
  simp only [t2_mk]
  rcases Nat.lt_or_ge i j with h | h
  · obtain ⟨g1, g2⟩ := hstep i j ((i + j) / 2) h h3 rfl
    rcases Nat.lt_or_ge ((i + j) / 2) c with h4 | h4
    · exact .inl ⟨_, g1 h4, ⟨(i + j) / 2 + 1, j, by push_cast; rfl, h4, h2, h3⟩, by simp only; omega, by trivial⟩
    · exact .inl ⟨_, g2 h4, ⟨i, (i + j) / 2, rfl, h1, h4, by omega⟩, by simp only; omega, by trivial⟩
  · have e1 : i = c := by omega
    have e2 : j = c := by omega
    subst e1; subst e2
    exact .inr (hend _)

theorem rHeld_s {s : api_Series} (hs : SerOK s) (t long : Int) (ht : 0 ≤ t ∧ t ≤ 1099511627776) : ref5_Held s t long = some (outH (heldAt s.Samples t long)) := by
  have hlen := hs.len
  obtain ⟨hc1, hc2⟩ := cnt_split s.Samples t hs.rise
  have hcl := cnt_le s.Samples t
  have hl : loop (t2 (ref5_Held_L1 s t)) (0, (s.Samples.length : Int)) = some ((cntLe s.Samples t : Nat) : Int) := by
    refine search_halves s.Samples.length (cntLe s.Samples t) (fun k => (k : Int)) hcl (by omega) (fun i j m hij hj hm => ?_) (fun i => ?_)
    · obtain ⟨x, hx⟩ := get_ex (xs := s.Samples) (k := m) (by omega)
      have hq : quo .i64 (i64 ((i : Int) + j)) 2 = some (m : Int) := by
        rw [i64, i64_id (by omega) (by omega), quo, if_neg (by decide), Int.tdiv_eq_ediv_of_nonneg (by omega), i64_id (by omega) (by omega)]
        congr 1; omega
      have h2 : (i : Int) < j := by omega
      simp only [ref5_Held_L1, h2, decide_true, if_true, hq, Option.bind_some, idx_of hx]
      refine ⟨fun h => ?_, fun h => ?_⟩
      · have := hc1 m x h hx
        simp [this, i64_id (show -9223372036854775808 ≤ (m : Int) + 1 by omega) (by omega)]
      · have := hc2 m x h hx
        simp [show ¬ x.At ≤ t by omega]
    · simp [ref5_Held_L1]
  simp only [ref5_Held, hl, Option.bind_some, t1]
  by_cases h0 : cntLe s.Samples t = 0
  · simp [h0, heldAt, lastLe, outH, z0]
  · obtain ⟨x, hx⟩ := get_ex (xs := s.Samples) (k := cntLe s.Samples t - 1) (by omega)
    have hi : idx s.Samples (IntKind.i64.wrap ((cntLe s.Samples t : Int) - 1)) = some x := by
      rw [i64_id (by omega) (by omega), show ((cntLe s.Samples t : Int) - 1) = ((cntLe s.Samples t - 1 : Nat) : Int) by omega, idx_of hx]
    obtain ⟨hx1, _, _, _⟩ := hs.at' _ _ hx
    have hw : IntKind.i64.wrap (t - x.At) = t - x.At := i64_id (by omega) (by omega)
    simp only [h0, hi, ref5_solid, heldAt, lastLe, hx, hw, Option.bind_some, i64, decide_false, if_false, Int.natCast_eq_zero, Bool.false_eq_true]
    by_cases h3 : 3 ≤ x.Mark
    · by_cases h4 : long < t - x.At
      · simp [h3, h4, outH, z0, show ¬ t - x.At ≤ long by omega]
      · simp [h3, h4, outH, show t - x.At ≤ long by omega]
    · simp [h3, outH, z0]
end Go.Vx

namespace Go.Vx
open Go Go.RowKit
theorem cnt_uniq {xs : List Smp} {t : Int} {c : Nat} (hr : ∀ (i j : Nat) x y, i < j → xs[i]? = some x → xs[j]? = some y → x.At < y.At) (hc : c ≤ xs.length)
    (h1 : ∀ (k : Nat) x, k < c → xs[k]? = some x → x.At ≤ t) (h2 : ∀ (k : Nat) x, c ≤ k → xs[k]? = some x → t < x.At) : cntLe xs t = c := by
  obtain ⟨g1, g2⟩ := cnt_split xs t hr
  have hl := cnt_le xs t
  rcases Nat.lt_trichotomy (cntLe xs t) c with h | h | h
  · obtain ⟨x, hx⟩ := get_ex (xs := xs) (k := cntLe xs t) (by omega)
    have := h1 _ x h hx; have := g2 _ x (Nat.le_refl _) hx; omega
  · exact h
  · obtain ⟨x, hx⟩ := get_ex (xs := xs) (k := c) (by omega)
    have := g1 _ x h hx; have := h2 _ x (Nat.le_refl _) hx; omega
theorem mid_s {i j : Nat} (h : i + j < 4611686018427387904) : shr .u64 (u64 (i64 ((i : Int) + j))) 1 = some (((i + j) / 2 : Nat) : Int) := by
  rw [i64, u64, i64_id (by omega) (by omega), u64_id (by omega) (by omega), shr, if_neg (by decide)]
  have : min (1 : Int).toNat IntKind.u64.bits = 1 := by decide
  rw [this]
  congr 1
  rw [Int.fdiv_eq_ediv_of_nonneg _ (by decide)]
  omega
theorem bs_s {xs : List Smp} {t : Int} (hlen : (xs.length : Int) ≤ 20000) (hat : ∀ (k : Nat) x, xs[k]? = some x → 0 ≤ x.At ∧ x.At ≤ 1099511627776)
    (hr : ∀ (i j : Nat) x y, i < j → xs[i]? = some x → xs[j]? = some y → x.At < y.At) (ht : 0 ≤ t ∧ t ≤ 1099511627776) :
    slices_BinarySearchFunc_api_Sample_api_Sample_int xs t (fun z0 z1 => series_latest_1 z0 z1) = some ((cntLe xs (t - 1) : Int), decide (∃ x, xs[cntLe xs (t - 1)]? = some x ∧ x.At = t)) := by
  obtain ⟨hc1, hc2⟩ := cnt_split xs (t - 1) hr
  have hcl := cnt_le xs (t - 1)
  have hcmp : ∀ (k : Nat) x, xs[k]? = some x → series_latest_1 x t = some (x.At - t) := fun k x hx => by
    have := hat k x hx
    simp only [series_latest_1, i64]
    rw [i64_id (by omega) (by omega)]
  have hl : loop (t2 (slices_BinarySearchFunc_api_Sample_api_Sample_int_L1 xs t (fun z0 z1 => series_latest_1 z0 z1))) (0, (xs.length : Int)) = some ((cntLe xs (t - 1) : Nat) : Int) := by
    refine search_halves xs.length (cntLe xs (t - 1)) (fun k => (k : Int)) hcl (by omega) (fun i j m hij hj hm => ?_) (fun i => ?_)
    · obtain ⟨x, hx⟩ := get_ex (xs := xs) (k := m) (by omega)
      have h2 : (i : Int) < j := by omega
      have hm' : shr .u64 (u64 (i64 ((i : Int) + j))) 1 = some (m : Int) := by rw [mid_s (by omega), hm]
      have hmi : i64 (m : Int) = m := i64_id (by omega) (by omega)
      simp only [slices_BinarySearchFunc_api_Sample_api_Sample_int_L1, h2, decide_true, if_true, hm', Option.bind_some, hmi, idx_of hx, hcmp m x hx]
      refine ⟨fun h => ?_, fun h => ?_⟩
      · have := hc1 m x h hx
        simp [show x.At - t < 0 by omega, i64_id (show -9223372036854775808 ≤ (m : Int) + 1 by omega) (by omega)]
      · have := hc2 m x h hx
        simp [show ¬ x.At - t < 0 by omega]
    · simp [slices_BinarySearchFunc_api_Sample_api_Sample_int_L1]
  simp only [slices_BinarySearchFunc_api_Sample_api_Sample_int, hl, Option.bind_some, t1]
  rcases Nat.lt_or_ge (cntLe xs (t - 1)) xs.length with h | h
  · obtain ⟨x, hx⟩ := get_ex h
    have h' : ((cntLe xs (t - 1) : Nat) : Int) < xs.length := by omega
    simp only [h', decide_true, idx_of hx, gd_tt, Option.bind_some, hcmp _ x hx, hx, Bool.true_and, Option.some.injEq, exists_eq_left', Prod.mk.injEq, true_and]
    simp only [decide_eq_decide]; omega
  · have h' : ¬ ((cntLe xs (t - 1) : Nat) : Int) < xs.length := by omega
    simp [gd, h, List.getElem?_eq_none h, show ¬ cntLe xs (t - 1) < xs.length by omega]
theorem latest_s {s : api_Series} (hs : SerOK s) {t : Int} (ht : 0 ≤ t ∧ t ≤ 1099511627776) : series_latest s t = some ((cntLe s.Samples t : Int) - 1) := by
  have hlen := hs.len
  obtain ⟨hc1, hc2⟩ := cnt_split s.Samples (t - 1) hs.rise
  have hcl := cnt_le s.Samples (t - 1)
  simp only [series_latest, bs_s hlen (fun k x hx => (hs.at' k x hx).1) hs.rise ht, Option.bind_some]
  by_cases hf : ∃ x, s.Samples[cntLe s.Samples (t - 1)]? = some x ∧ x.At = t
  · obtain ⟨x, hx, hxt⟩ := hf
    have hlt := (List.getElem?_eq_some_iff.1 hx).1
    have : cntLe s.Samples t = cntLe s.Samples (t - 1) + 1 := cnt_uniq hs.rise (by omega) (fun k y hk hy => by
        rcases Nat.lt_or_ge k (cntLe s.Samples (t - 1)) with h | h
        · have := hc1 k y h hy; omega
        · have : k = cntLe s.Samples (t - 1) := by omega
          subst this; rw [hx] at hy; cases hy; omega) (fun k y hk hy => by
        have := hs.rise _ _ _ _ (show cntLe s.Samples (t - 1) < k by omega) hx hy; omega)
    have hd : (∃ x, s.Samples[cntLe s.Samples (t - 1)]? = some x ∧ x.At = t) := ⟨x, hx, hxt⟩
    simp only [hd, decide_true, if_true, this]
    congr 1; omega
  · have : cntLe s.Samples t = cntLe s.Samples (t - 1) := cnt_uniq hs.rise hcl (fun k y hk hy => by have := hc1 k y hk hy; omega) (fun k y hk hy => by
        have h1 := hc2 k y hk hy
        rcases Nat.lt_or_ge (cntLe s.Samples (t - 1)) k with h | h
        · obtain ⟨x, hx⟩ := get_ex (xs := s.Samples) (k := cntLe s.Samples (t - 1)) (by have := (List.getElem?_eq_some_iff.1 hy).1; omega)
          have := hs.rise _ _ _ _ h hx hy
          have := hc2 _ x (Nat.le_refl _) hx; omega
        · have : k = cntLe s.Samples (t - 1) := by omega
          subst this
          have : ¬ y.At = t := fun e => hf ⟨y, hy, e⟩
          omega)
    simp only [hf, decide_false, this, i64, Bool.false_eq_true, if_false]
    rw [i64_id (by omega) (by omega)]
theorem hold_s {s : api_Series} (hs : SerOK s) (t long : Int) (ht : 0 ≤ t ∧ t ≤ 1099511627776) : series_hold s t long = some (outH (heldAt s.Samples t long)) := by
  have hlen := hs.len
  have hcl := cnt_le s.Samples t
  simp only [series_hold, latest_s hs ht, Option.bind_some]
  by_cases h0 : cntLe s.Samples t = 0
  · simp [h0, heldAt, lastLe, outH, z0, gd]
  · obtain ⟨x, hx⟩ := get_ex (xs := s.Samples) (k := cntLe s.Samples t - 1) (by omega)
    have hi : idx s.Samples ((cntLe s.Samples t : Int) - 1) = some x := by
      rw [show ((cntLe s.Samples t : Int) - 1) = ((cntLe s.Samples t - 1 : Nat) : Int) by omega, idx_of hx]
    obtain ⟨hx1, _, _, _⟩ := hs.at' _ _ hx
    have hw : IntKind.i64.wrap (t - x.At) = t - x.At := i64_id (by omega) (by omega)
    have hn : ¬ ((cntLe s.Samples t : Int) - 1 < 0) := by omega
    simp only [h0, hi, hn, series_solid, heldAt, lastLe, hx, hw, Option.bind_some, i64, decide_false, if_false, Bool.false_eq_true]
    by_cases h3 : 3 ≤ x.Mark
    · by_cases h4 : long < t - x.At
      · simp [h3, h4, outH, z0, show ¬ t - x.At ≤ long by omega, hw]
      · simp [h3, h4, outH, show t - x.At ≤ long by omega, hw]
    · simp [h3, outH, z0]
def outHold (s : api_Series) (t long : Int) : Smp × Bool × Int :=
  if (chk s).2 ≠ 0 then (z0, false, (chk s).2) else if wi t 0 1099511627776 && wi long 0 1099511627776 then ((outH (heldAt s.Samples t long)).1, (outH (heldAt s.Samples t long)).2, 0) else (z0, false, 9)
theorem rHold_s (s : api_Series) (t long : Int) : ref5_Hold s t long = some (outHold s t long) := by
  simp only [ref5_Hold, rCheck_s, outside_s, Option.bind_some, outHold]
  by_cases h0 : (chk s).2 = 0
  · cases h1 : wi t 0 1099511627776 with
    | false => simp [h0, z0]
    | true => cases h2 : wi long 0 1099511627776 with
      | false => simp [h0, z0]
      | true => simp [h0, rHeld_s (ser_ok h0) t long (wi_iff.1 h1)]
  · simp [h0, z0]
end Go.Vx
