/- A text of the proof: a verified executor of the program form, or the contracts of the functions that the law reaches. -/
import Derived.Test.YtciaeohnkfnamaaDoorPA
import Derived.Test.YtciaeohnkfnamaaDoorShT
set_option linter.all false
namespace Go.Vx
open Go Go.RowKit
abbrev Smp := api_Sample
def wi (n lo hi : Int) : Bool := decide (lo ≤ n) && decide (n ≤ hi)
theorem within_s (n a b : Int) : series_within n a b = some (wi n a b) := rfl
theorem outside_s (n a b : Int) : ref5_outside n a b = some (!wi n a b) := by
  simp only [ref5_outside, wi, Option.some.injEq]
  rw [Bool.eq_iff_iff]; simp [Int.not_le]
theorem wi_iff {n a b : Int} : wi n a b = true ↔ a ≤ n ∧ n ≤ b := by simp [wi]
def smpErr (x : Smp) : Option Int := if !(wi x.At 0 1099511627776 && wi x.N (-1125899906842624) 1125899906842624 && wi x.Mark 0 4) then some 9 else if !decide (x.N = 0) && decide (x.Mark ≤ 1) then some 2 else none
def prev (xs : List Smp) (k : Nat) : Option Smp := if k = 0 then none else xs[k - 1]?
def ordErr (p : Option Smp) (x : Smp) : Bool := match p with | none => false | some q => decide (x.At ≤ q.At)
def chkL : Option Smp → Nat → List Smp → Int × Int
  | _, _, [] => (-1, 0)
  | p, k, x :: tl => match smpErr x with | some e => ((k : Int), e) | none => if ordErr p x then ((k : Int), 10) else chkL (some x) (k + 1) tl
def chk (s : api_Series) : Int × Int := if wi s.Den 1 1000000 then (if (s.Samples.length : Int) ≤ 20000 then chkL none 0 s.Samples else (-1, 3)) else (-1, 9)
theorem prev_succ {xs : List Smp} {k : Nat} {x : Smp} (h : xs[k]? = some x) : prev xs (k + 1) = some x := by simp [prev, h]
theorem prev_pos {xs : List Smp} {k : Nat} (hk : 0 < k) (h : k ≤ xs.length) : ∃ y, xs[k - 1]? = some y ∧ prev xs k = some y ∧ idx xs ((k : Int) - 1) = some y := by
  obtain ⟨y, hy⟩ := get_ex (xs := xs) (k := k - 1) (by omega)
  refine ⟨y, hy, by simp [prev, hy]; omega, ?_⟩
  have : ((k : Int) - 1) = ((k - 1 : Nat) : Int) := by omega
  rw [this, idx_of hy]
theorem check_loop (s : api_Series) (h : (s.Samples.length : Int) ≤ 20000) :
    loop (t1 (series_check_L1 s)) 0 = some ((fun r : Int × Int => if r.2 = 0 then Sum.inr () else Sum.inl r) (chkL none 0 s.Samples)) := by
  refine loop_ix1 (xs := s.Samples) (fun k => (fun r : Int × Int => if r.2 = 0 then Sum.inr () else Sum.inl r) (chkL (prev s.Samples k) k (s.Samples.drop k))) (fun k x hx => ?_) ?_
  · have hlt := lt_of hx
    rw [drop_cons hx, chkL]
    simp only [series_check_L1, idx_of hx, hlt, decide_true, if_true, Option.bind_some, within_s]
    by_cases hb : (wi x.At 0 1099511627776 && wi x.N (-1125899906842624) 1125899906842624 && wi x.Mark 0 4) = true
    · simp only [Bool.and_eq_true] at hb
      obtain ⟨⟨h1, h2⟩, h3⟩ := hb
      by_cases hh : (!decide (x.N = 0) && decide (x.Mark ≤ 1)) = true
      · right
        simp [smpErr, h1, h2, h3, hh]
      · have hs : smpErr x = none := by simp only [smpErr, h1, h2, h3]; simp [hh]
        rw [hs]
        rcases Nat.eq_zero_or_pos k with rfl | hk
        · left
          simp [h1, h2, h3, hh, i64_id, prev, ordErr, hx]
        · obtain ⟨y, hy, hp, hi⟩ := prev_pos (xs := s.Samples) hk (by omega)
          have hk' : (0 : Int) < k := by omega
          rw [hp]
          have hw : IntKind.i64.wrap ((k : Int) - 1) = (k : Int) - 1 := i64_id (by omega) (by omega)
          have hw2 : IntKind.i64.wrap ((k : Int) + 1) = (k : Int) + 1 := i64_id (by omega) (by omega)
          by_cases ho : x.At ≤ y.At
          · right; simp [h1, h2, h3, hh, hw, hi, hk, ordErr, ho]
          · left; simp [h1, h2, h3, hh, hw, hw2, hi, hk, ordErr, ho, prev_succ hx]
    · right
      have hs : smpErr x = some 9 := by
        simp only [smpErr]
        rw [if_pos (by cases h1 : wi x.At 0 1099511627776 <;> cases h2 : wi x.N (-1125899906842624) 1125899906842624 <;> cases h3 : wi x.Mark 0 4 <;> simp_all)]
      rw [hs]
      simp only [Bool.and_eq_true, not_and, Bool.not_eq_true] at hb
      cases h1 : wi x.At 0 1099511627776 <;> cases h2 : wi x.N (-1125899906842624) 1125899906842624 <;> cases h3 : wi x.Mark 0 4 <;> simp_all
  · simp [series_check_L1, List.drop_length, chkL]
theorem chkL_cases : ∀ (p : Option Smp) (k : Nat) (xs : List Smp), chkL p k xs = (-1, 0) ∨ (chkL p k xs).2 ≠ 0
  | _, _, [] => .inl rfl
  | p, k, x :: tl => by
    rw [chkL]
    split
    · rename_i e he; right; unfold smpErr at he; split at he
      · cases he; simp
      · split at he <;> cases he; simp
    · split
      · right; simp
      · exact chkL_cases _ _ tl
theorem check_s (s : api_Series) : series_check s = some (chk s) := by
  simp only [series_check, within_s, Option.bind_some, chk]
  cases hd : wi s.Den 1 1000000 with
  | false => simp
  | true =>
    by_cases hl : (s.Samples.length : Int) ≤ 20000
    · rw [check_loop s hl]
      simp only [show ¬ 20000 < (s.Samples.length : Int) by omega, hl, decide_false, if_true, if_false, Bool.not_true, Option.bind_some, Bool.false_eq_true]
      rcases chkL_cases none 0 s.Samples with h | h
      · simp [h]
      · simp [h]
    · simp [hl, show 20000 < (s.Samples.length : Int) by omega]
theorem smpErr_pos {x : Smp} {e : Int} (h : smpErr x = some e) : e = 9 ∨ e = 2 := by
  unfold smpErr at h; split at h
  · cases h; simp
  · split at h <;> cases h; simp
theorem Check_s (s : api_Series) : series_Check s = some (chk s).2 := by simp [series_Check, check_s]
structure SerOK (s : api_Series) : Prop where
  den : 1 ≤ s.Den ∧ s.Den ≤ 1000000
  len : (s.Samples.length : Int) ≤ 20000
  at' : ∀ (k : Nat) x, s.Samples[k]? = some x → (0 ≤ x.At ∧ x.At ≤ 1099511627776) ∧ (-1125899906842624 ≤ x.N ∧ x.N ≤ 1125899906842624) ∧ (0 ≤ x.Mark ∧ x.Mark ≤ 4) ∧ (x.N ≠ 0 → 2 ≤ x.Mark)
  rise : ∀ (i j : Nat) x y, i < j → s.Samples[i]? = some x → s.Samples[j]? = some y → x.At < y.At
theorem chkL_good : ∀ (p : Option Smp) (k : Nat) (xs : List Smp), (chkL p k xs).2 = 0 →
    (∀ (j : Nat) x, xs[j]? = some x → smpErr x = none ∧ ∀ q, p = some q → q.At < x.At) ∧ (∀ (i j : Nat) x y, i < j → xs[i]? = some x → xs[j]? = some y → x.At < y.At)
  | _, _, [], _ => ⟨fun j x h => by simp at h, fun i j x y _ h => by simp at h⟩
  | p, k, x :: tl, h => by
    rw [chkL] at h
    cases hs : smpErr x with
    | some e => rw [hs] at h; rcases smpErr_pos hs with rfl | rfl <;> simp at h
    | none =>
      rw [hs] at h
      simp only at h
      split at h
      · simp at h
      · rename_i ho
        obtain ⟨h1, h2⟩ := chkL_good _ _ tl h
        have hpx : ∀ q, p = some q → q.At < x.At := fun q hq => by subst hq; simpa [ordErr] using ho
        refine ⟨fun j y hy => ?_, fun i j u v hij hu hv => ?_⟩
        · cases j with
          | zero => simp at hy; subst hy; exact ⟨hs, hpx⟩
          | succ j =>
            have hy' : tl[j]? = some y := by simpa using hy
            obtain ⟨g1, g2⟩ := h1 j y hy'
            exact ⟨g1, fun q hq => Int.lt_trans (hpx q hq) (g2 x rfl)⟩
        · cases j with
          | zero => omega
          | succ j =>
            have hv' : tl[j]? = some v := by simpa using hv
            cases i with
            | zero => simp at hu; subst hu; exact (h1 j v hv').2 x rfl
            | succ i => exact h2 i j u v (by omega) (by simpa using hu) hv'
theorem ser_ok {s : api_Series} (h : (chk s).2 = 0) : SerOK s := by
  unfold chk at h
  split at h
  · rename_i hd
    split at h
    · rename_i hl
      obtain ⟨h1, h2⟩ := chkL_good none 0 s.Samples h
      refine ⟨wi_iff.1 hd, hl, fun k x hx => ?_, h2⟩
      have := (h1 k x hx).1
      unfold smpErr at this
      split at this
      · cases this
      · rename_i hb
        split at this
        · cases this
        · rename_i hh
          simp only [Bool.not_eq_true', Bool.not_eq_false, Bool.and_eq_true, wi_iff] at hb
          simp only [Bool.and_eq_true, Bool.not_eq_true', decide_eq_false_iff_not, decide_eq_true_eq] at hh
          exact ⟨hb.1.1, hb.1.2, hb.2, fun h0 => by omega⟩
    · simp at h
  · simp at h
end Go.Vx

namespace Go.Vx
open Go Go.RowKit
def cntLe (xs : List Smp) (t : Int) : Nat := xs.countP fun x => decide (x.At ≤ t)
theorem cnt_split : ∀ (xs : List Smp) (t : Int), (∀ (i j : Nat) x y, i < j → xs[i]? = some x → xs[j]? = some y → x.At < y.At) →
    (∀ (k : Nat) x, k < cntLe xs t → xs[k]? = some x → x.At ≤ t) ∧ (∀ (k : Nat) x, cntLe xs t ≤ k → xs[k]? = some x → t < x.At)
  | [], _, _ => ⟨fun k x h => by simp [cntLe] at h, fun k x _ h => by simp at h⟩
  | x :: tl, t, hr => by
    obtain ⟨h1, h2⟩ := cnt_split tl t fun i j u v hij hu hv => hr (i + 1) (j + 1) u v (by omega) (by simpa using hu) (by simpa using hv)
    have hx : ∀ (j : Nat) y, tl[j]? = some y → x.At < y.At := fun j y hy => hr 0 (j + 1) x y (by omega) rfl (by simpa using hy)
    by_cases hc : x.At ≤ t
    · have e : cntLe (x :: tl) t = cntLe tl t + 1 := by simp [cntLe, hc]
      rw [e]
      refine ⟨fun k y hk hy => ?_, fun k y hk hy => ?_⟩
      · cases k with
        | zero => simp at hy; subst hy; exact hc
        | succ k => exact h1 k y (by omega) (by simpa using hy)
      · cases k with
        | zero => omega
        | succ k => exact h2 k y (by omega) (by simpa using hy)
    · have e0 : cntLe tl t = 0 := by
        unfold cntLe
        rw [List.countP_eq_zero]
        intro y hy
        obtain ⟨j, hj⟩ := List.mem_iff_getElem?.1 hy
        have := hx j y hj
        simp; omega
      have e : cntLe (x :: tl) t = 0 := by
        have : cntLe (x :: tl) t = cntLe tl t := by simp [cntLe, hc]
        rw [this, e0]
      rw [e]
      refine ⟨fun k y hk _ => by omega, fun k y _ hy => ?_⟩
      cases k with
      | zero => simp at hy; subst hy; omega
      | succ k => have := hx k y (by simpa using hy); omega
theorem cnt_le (xs : List Smp) (t : Int) : cntLe xs t ≤ xs.length := List.countP_le_length
def lastLe (xs : List Smp) (t : Int) : Option Smp := if cntLe xs t = 0 then none else xs[cntLe xs t - 1]?
def heldAt (xs : List Smp) (t long : Int) : Option Smp := (lastLe xs t).bind fun x => if 3 ≤ x.Mark ∧ t - x.At ≤ long then some x else none
def z0 : Smp := api_Sample.mk 0 0 0
def outH (o : Option Smp) : Smp × Bool := match o with | some x => (x, true) | none => (z0, false)

theorem search_halves {ρ : Type} {body : Int → Int → Option ((Int × Int) ⊕ ρ)} (n c : Nat) (F : Nat → ρ) (hc : c ≤ n) (hn : n ≤ 4611686018427387904)
    (hstep : ∀ (i j m : Nat), i < j → j ≤ n → m = (i + j) / 2 → (m < c → body i j = some (.inl ((m : Int) + 1, j))) ∧ (c ≤ m → body i j = some (.inl (i, (m : Int)))))
    (hend : ∀ i : Nat, body i i = some (.inr (F i))) : loop (t2 body) (0, (n : Int)) = some (F c) := by
  refine loop_to (body := t2 body) (fun p => ∃ i j : Nat, p = ((i : Int), (j : Int)) ∧ i ≤ c ∧ c ≤ j ∧ j ≤ n) (fun p => (p.2 - p.1).toNat) (fun _ => F c) ?_ _ ⟨0, n, rfl, Nat.zero_le _, hc, Nat.le_refl _⟩
  rintro _ ⟨i, j, rfl, h1, h2, h3⟩
  simp only [t2_mk]
  rcases Nat.lt_or_ge i j with h | h
  · obtain ⟨g1, g2⟩ := hstep i j ((i + j) / 2) h h3 rfl
    rcases Nat.lt_or_ge ((i + j) / 2) c with h4 | h4
    · exact .inl ⟨_, g1 h4, ⟨(i + j) / 2 + 1, j, by push_cast; rfl, h4, h2, h3⟩, by simp only; omega, by trivial⟩
    · exact .inl ⟨_, g2 h4, ⟨i, (i + j) / 2, rfl, h1, h4, by omega⟩, by simp only; omega, by trivial⟩
  · have e1 : i = c := by omega
    have e2 : j = c := by omega
    subst e1; subst e2
    exact .inr (hend _)

end Go.Vx

namespace Go.Vx
open Go Go.RowKit
theorem cnt_uniq {xs : List Smp} {t : Int} {c : Nat} (hr : ∀ (i j : Nat) x y, i < j → xs[i]? = some x → xs[j]? = some y → x.At < y.At) (hc : c ≤ xs.length)
    (h1 : ∀ (k : Nat) x, k < c → xs[k]? = some x → x.At ≤ t) (h2 : ∀ (k : Nat) x, c ≤ k → xs[k]? = some x → t < x.At) : cntLe xs t = c := by
  obtain ⟨g1, g2⟩ := cnt_split xs t hr
  have hl := cnt_le xs t
  rcases Nat.lt_trichotomy (cntLe xs t) c with h | h | h
  · obtain ⟨x, hx⟩ := get_ex (xs := xs) (k := cntLe xs t) (by omega)
    have := h1 _ x h hx; have := g2 _ x (Nat.le_refl _) hx; omega
  · exact h
  · obtain ⟨x, hx⟩ := get_ex (xs := xs) (k := c) (by omega)
    have := g1 _ x h hx; have := h2 _ x (Nat.le_refl _) hx; omega
theorem mid_s {i j : Nat} (h : i + j < 4611686018427387904) : shr .u64 (u64 (i64 ((i : Int) + j))) 1 = some (((i + j) / 2 : Nat) : Int) := by
  rw [i64, u64, i64_id (by omega) (by omega), u64_id (by omega) (by omega), shr, if_neg (by decide)]
  have : min (1 : Int).toNat IntKind.u64.bits = 1 := by decide
  rw [this]
  congr 1
  rw [Int.fdiv_eq_ediv_of_nonneg _ (by decide)]
  omega
theorem bs_s {xs : List Smp} {t : Int} (hlen : (xs.length : Int) ≤ 20000) (hat : ∀ (k : Nat) x, xs[k]? = some x → 0 ≤ x.At ∧ x.At ≤ 1099511627776)
    (hr : ∀ (i j : Nat) x y, i < j → xs[i]? = some x → xs[j]? = some y → x.At < y.At) (ht : 0 ≤ t ∧ t ≤ 1099511627776) :
    slices_BinarySearchFunc_api_Sample_api_Sample_int xs t (fun z0 z1 => series_latest_1 z0 z1) = some ((cntLe xs (t - 1) : Int), decide (∃ x, xs[cntLe xs (t - 1)]? = some x ∧ x.At = t)) := by
  obtain ⟨hc1, hc2⟩ := cnt_split xs (t - 1) hr
  have hcl := cnt_le xs (t - 1)
  have hcmp : ∀ (k : Nat) x, xs[k]? = some x → series_latest_1 x t = some (x.At - t) := fun k x hx => by
    have := hat k x hx
    simp only [series_latest_1, i64]
    rw [i64_id (by omega) (by omega)]
  have hl : loop (t2 (slices_BinarySearchFunc_api_Sample_api_Sample_int_L1 xs t (fun z0 z1 => series_latest_1 z0 z1))) (0, (xs.length : Int)) = some ((cntLe xs (t - 1) : Nat) : Int) := by
    refine search_halves xs.length (cntLe xs (t - 1)) (fun k => (k : Int)) hcl (by omega) (fun i j m hij hj hm => ?_) (fun i => ?_)
    · obtain ⟨x, hx⟩ := get_ex (xs := xs) (k := m) (by omega)
      have h2 : (i : Int) < j := by omega
      have hm' : shr .u64 (u64 (i64 ((i : Int) + j))) 1 = some (m : Int) := by rw [mid_s (by omega), hm]
      have hmi : i64 (m : Int) = m := i64_id (by omega) (by omega)
      simp only [slices_BinarySearchFunc_api_Sample_api_Sample_int_L1, h2, decide_true, if_true, hm', Option.bind_some, hmi, idx_of hx, hcmp m x hx]
      refine ⟨fun h => ?_, fun h => ?_⟩
      · have := hc1 m x h hx
        simp [show x.At - t < 0 by omega, i64_id (show -9223372036854775808 ≤ (m : Int) + 1 by omega) (by omega)]
      · have := hc2 m x h hx
        simp [show ¬ x.At - t < 0 by omega]
    · simp [slices_BinarySearchFunc_api_Sample_api_Sample_int_L1]
  simp only [slices_BinarySearchFunc_api_Sample_api_Sample_int, hl, Option.bind_some, t1]
  rcases Nat.lt_or_ge (cntLe xs (t - 1)) xs.length with h | h
  · obtain ⟨x, hx⟩ := get_ex h
    have h' : ((cntLe xs (t - 1) : Nat) : Int) < xs.length := by omega
    simp only [h', decide_true, idx_of hx, gd_tt, Option.bind_some, hcmp _ x hx, hx, Bool.true_and, Option.some.injEq, exists_eq_left', Prod.mk.injEq, true_and]
    simp only [decide_eq_decide]; omega
  · have h' : ¬ ((cntLe xs (t - 1) : Nat) : Int) < xs.length := by omega
    simp [gd, h, List.getElem?_eq_none h, show ¬ cntLe xs (t - 1) < xs.length by omega]
theorem latest_s {s : api_Series} (hs : SerOK s) {t : Int} (ht : 0 ≤ t ∧ t ≤ 1099511627776) : series_latest s t = some ((cntLe s.Samples t : Int) - 1) := by
  have hlen := hs.len
  obtain ⟨hc1, hc2⟩ := cnt_split s.Samples (t - 1) hs.rise
  have hcl := cnt_le s.Samples (t - 1)
  simp only [series_latest, bs_s hlen (fun k x hx => (hs.at' k x hx).1) hs.rise ht, Option.bind_some]
  by_cases hf : ∃ x, s.Samples[cntLe s.Samples (t - 1)]? = some x ∧ x.At = t
  · obtain ⟨x, hx, hxt⟩ := hf
    have hlt := (List.getElem?_eq_some_iff.1 hx).1
    have : cntLe s.Samples t = cntLe s.Samples (t - 1) + 1 := cnt_uniq hs.rise (by omega) (fun k y hk hy => by
        rcases Nat.lt_or_ge k (cntLe s.Samples (t - 1)) with h | h
        · have := hc1 k y h hy; omega
        · have : k = cntLe s.Samples (t - 1) := by omega
          subst this; rw [hx] at hy; cases hy; omega) (fun k y hk hy => by
        have := hs.rise _ _ _ _ (show cntLe s.Samples (t - 1) < k by omega) hx hy; omega)
    have hd : (∃ x, s.Samples[cntLe s.Samples (t - 1)]? = some x ∧ x.At = t) := ⟨x, hx, hxt⟩
    simp only [hd, decide_true, if_true, this]
    congr 1; omega
  · have : cntLe s.Samples t = cntLe s.Samples (t - 1) := cnt_uniq hs.rise hcl (fun k y hk hy => by have := hc1 k y hk hy; omega) (fun k y hk hy => by
        have h1 := hc2 k y hk hy
        rcases Nat.lt_or_ge (cntLe s.Samples (t - 1)) k with h | h
        · obtain ⟨x, hx⟩ := get_ex (xs := s.Samples) (k := cntLe s.Samples (t - 1)) (by have := (List.getElem?_eq_some_iff.1 hy).1; omega)
          have := hs.rise _ _ _ _ h hx hy
          have := hc2 _ x (Nat.le_refl _) hx; omega
        · have : k = cntLe s.Samples (t - 1) := by omega
          subst this
          have : ¬ y.At = t := fun e => hf ⟨y, hy, e⟩
          omega)
    simp only [hf, decide_false, this, i64, Bool.false_eq_true, if_false]
    rw [i64_id (by omega) (by omega)]
theorem hold_s {s : api_Series} (hs : SerOK s) (t long : Int) (ht : 0 ≤ t ∧ t ≤ 1099511627776) : series_hold s t long = some (outH (heldAt s.Samples t long)) := by
  have hlen := hs.len
  have hcl := cnt_le s.Samples t
  simp only [series_hold, latest_s hs ht, Option.bind_some]
  by_cases h0 : cntLe s.Samples t = 0
  · simp [h0, heldAt, lastLe, outH, z0, gd]
  · obtain ⟨x, hx⟩ := get_ex (xs := s.Samples) (k := cntLe s.Samples t - 1) (by omega)
    have hi : idx s.Samples ((cntLe s.Samples t : Int) - 1) = some x := by
      rw [show ((cntLe s.Samples t : Int) - 1) = ((cntLe s.Samples t - 1 : Nat) : Int) by omega, idx_of hx]
    obtain ⟨hx1, _, _, _⟩ := hs.at' _ _ hx
    have hw : IntKind.i64.wrap (t - x.At) = t - x.At := i64_id (by omega) (by omega)
    have hn : ¬ ((cntLe s.Samples t : Int) - 1 < 0) := by omega
    simp only [h0, hi, hn, series_solid, heldAt, lastLe, hx, hw, Option.bind_some, i64, decide_false, if_false, Bool.false_eq_true]
    by_cases h3 : 3 ≤ x.Mark
    · by_cases h4 : long < t - x.At
      · simp [h3, h4, outH, z0, show ¬ t - x.At ≤ long by omega, hw]
      · simp [h3, h4, outH, show t - x.At ≤ long by omega, hw]
    · simp [h3, outH, z0]
def outHold (s : api_Series) (t long : Int) : Smp × Bool × Int :=
  if (chk s).2 ≠ 0 then (z0, false, (chk s).2) else if wi t 0 1099511627776 && wi long 0 1099511627776 then ((outH (heldAt s.Samples t long)).1, (outH (heldAt s.Samples t long)).2, 0) else (z0, false, 9)
end Go.Vx

namespace Go.Vx
open Go Go.RowKit
theorem Hold_s (s : api_Series) (t long : Int) : series_Hold s t long = some (outHold s t long) := by
  simp only [series_Hold, Check_s, within_s, Option.bind_some, outHold]
  by_cases h0 : (chk s).2 = 0
  · cases h1 : wi t 0 1099511627776 with
    | false => simp [h0, z0]
    | true => cases h2 : wi long 0 1099511627776 with
      | false => simp [h0, z0]
      | true => simp [h0, hold_s (ser_ok h0) t long (wi_iff.1 h1)]
  · simp [h0, z0]
theorem holds_s : law5_holds = some true := by
  have hc : chk (api_Series.mk 1 [api_Sample.mk 5 7 4]) = (-1, 0) := by decide
  simp only [law5_holds, Hold_s, Option.bind_some, outHold, hc]
  decide
end Go.Vx

namespace Go.Vx
open Go Go.RowKit Go.Lib
theorem slc_ex {α : Type} {xs : List α} {a b : Int} (h0 : 0 ≤ a) (h1 : a ≤ b) (h2 : b ≤ xs.length) : slc xs a b = some ((xs.take b.toNat).drop a.toNat) := by
  simp only [slc]; rw [if_pos ⟨h0, h1, h2⟩]
theorem small_t (i : Int) (h0 : 0 ≤ i) (h1 : i < 100) : ∃ s, istrconv_small i = some s ∧ s.length ≤ 2 := by
  obtain ⟨n, rfl⟩ := Int.eq_ofNat_of_zero_le h0
  unfold istrconv_small
  by_cases h : (n : Int) < 10
  · have e1 : IntKind.i64.wrap ((n : Int) + 1) = (n : Int) + 1 := i64_id (by omega) (by omega)
    refine ⟨_, by simp only [h, decide_true, if_true, e1]; rw [slc_ex (by omega) (by omega) (by show _ ≤ ((36 : Nat) : Int); omega)]; rfl, ?_⟩
    simp only [List.length_drop, List.length_take]; omega
  · have e1 : IntKind.i64.wrap ((n : Int) * 2) = (n : Int) * 2 := i64_id (by omega) (by omega)
    have e2 : IntKind.i64.wrap ((n : Int) * 2 + 2) = (n : Int) * 2 + 2 := i64_id (by omega) (by omega)
    refine ⟨_, by simp only [h, decide_false, if_false, Bool.false_eq_true, e1, e2]; rw [slc_ex (by omega) (by omega) (by show _ ≤ ((200 : Nat) : Int); omega)]; rfl, ?_⟩
    simp only [List.length_drop, List.length_take]; omega
theorem u64_lo (z : Int) : 0 ≤ IntKind.u64.wrap z ∧ IntKind.u64.wrap z < 18446744073709551616 := by
  simp only [IntKind.wrap]
  constructor <;> simp [IntKind.signed, IntKind.bits] <;> omega
theorem uint_t (dst : List Int) (u : Int) (h0 : 0 ≤ u) (h1 : u < 18446744073709551616) (hl : dst.length ≤ 4000000000) : ∃ l, istrconv_AppendUint dst u 10 = some l ∧ l.length ≤ dst.length + 20 := by
  unfold istrconv_AppendUint
  simp only [decide_true, if_true]
  by_cases h : u < 100
  · have e : IntKind.i64.wrap u = u := i64_id (by omega) (by omega)
    obtain ⟨s, hs, hsl⟩ := small_t u h0 h
    refine ⟨dst ++ bytes s, ?_, by simp [bytes]; omega⟩
    simp only [h, decide_true, if_true, e, hs, Option.bind_some]
    rw [app_of (by simp [bytes]; omega)]
    rfl
  · have hn : nDigits u.toNat ≤ 20 := by
      have := (numDigits_eq u.toNat (by omega) (by omega))
      have h2 := this.2; have h3 := this.1
      split at h3 <;> omega
    have hp := nDigits_pos u.toNat
    have hlt := lt_pow_nDigits u.toNat
    have hsl : ∀ {β : Type} (v : Vector β 24), slc v.toList 0 (nDigits u.toNat : Int) = some ((v.toList.take (nDigits u.toNat)).drop 0) := fun v => slc_ex (Int.le_refl _) (by omega) (by simp; omega)
    have hf : ∃ v, fmt10 (Vector.replicate 24 0) (nDigits u.toNat) u = some v := by
      refine ⟨_, by unfold fmt10; rw [if_pos ⟨by omega, by omega, h0, hlt, by omega, fun x hx => by simp at hx; subst hx; omega⟩]⟩
    obtain ⟨v, hv⟩ := hf
    refine ⟨dst ++ (v.toList.take (nDigits u.toNat)).drop 0, ?_, by simp; omega⟩
    simp only [h, decide_false, if_false, Bool.false_eq_true, numDigits]
    rw [if_pos (by omega)]
    simp only [Option.bind_some, hsl, Int.sub_zero, Int.toNat_natCast, hv]
    rw [app_of (by simp; omega)]
    rfl
theorem int_t (dst : List Int) (n : Int) (hl : dst.length ≤ 3999999999) : ∃ l, strconv_AppendInt dst n 10 = some l ∧ l.length ≤ dst.length + 21 := by
  unfold strconv_AppendInt istrconv_AppendInt
  by_cases h : n < 0
  · obtain ⟨l, h1, h2⟩ := uint_t (dst ++ [45]) (IntKind.u64.wrap (-(IntKind.u64.wrap n))) (u64_lo _).1 (u64_lo _).2 (by simp; omega)
    refine ⟨l, ?_, by simp at h2; omega⟩
    simp only [h, decide_true, if_true]
    rw [app_of (by simp; omega)]
    simp [h1]
  · obtain ⟨l, h1, h2⟩ := uint_t dst (IntKind.u64.wrap n) (u64_lo _).1 (u64_lo _).2 (by omega)
    refine ⟨l, ?_, by omega⟩
    simp [h, h1]
theorem Int_t (k : ref0_Ink) (n : Int) (hl : k.out.length ≤ 3999999999) : ∃ r, ref0_Ink_Int k n = some r ∧ r.out.length ≤ k.out.length + 22 := by
  obtain ⟨l, h1, h2⟩ := int_t k.out n hl
  refine ⟨⟨l ++ [32]⟩, ?_, by simp; omega⟩
  unfold ref0_Ink_Int
  simp only [h1, Option.bind_some]
  rw [app_of (by simp; omega)]
  rfl
theorem Ints_t (k : ref0_Ink) (l : List Int) (hl : k.out.length + 22 * (l.length + 1) ≤ 3999999999) (h63 : l.length < 4611686018427387904) : ∃ r, ref0_Ink_Ints k l = some r ∧ r.out.length ≤ k.out.length + 22 * (l.length + 1) := by
  obtain ⟨k1, h1, h2⟩ := Int_t k l.length (by omega)
  unfold ref0_Ink_Ints
  simp only [h1, Option.bind_some]
  obtain ⟨r, h3, h4⟩ := loop_inv (body := t2 (ref0_Ink_Ints_L1 l)) (fun p => ∃ j : Nat, p.2 = j ∧ j ≤ l.length ∧ p.1.length ≤ k1.out.length + 22 * j) (fun p => l.length - p.2.toNat) (fun r => r.out.length ≤ k1.out.length + 22 * l.length) (by
    rintro ⟨out, i⟩ ⟨j, hi, hj, ho⟩
    simp only at hi ho
    subst hi
    simp only [t2_mk, ref0_Ink_Ints_L1]
    rcases Nat.lt_or_ge j l.length with h | h
    · obtain ⟨x, hx⟩ := get_ex h
      obtain ⟨k2, e1, e2⟩ := Int_t ⟨out⟩ x (by simp only; omega)
      left
      have e : IntKind.i64.wrap ((j : Int) + 1) = (j : Int) + 1 := i64_id (by omega) (by omega)
      refine ⟨(k2.out, (j : Int) + 1), by simp [lt_of hx, idx_of hx, e1, e], ⟨j + 1, by push_cast; rfl, h, by simp only at e2 ⊢; omega⟩, by simp only; omega⟩
    · have : j = l.length := by omega
      subst this
      exact .inr ⟨⟨out⟩, by simp, by simpa using ho⟩) (k1.out, 0) ⟨0, rfl, Nat.zero_le _, by simp⟩
  exact ⟨r, h3, by omega⟩
theorem ints_t (l : List Int) (e : Int) (hl : l.length ≤ 1048576) : ∃ t, law5_ints l e = some t := by
  obtain ⟨k1, h1, h2⟩ := Ints_t ⟨[]⟩ l (by simp; omega) (by omega)
  obtain ⟨k2, h3, h4⟩ := Int_t k1 e (by simp at h2; omega)
  exact ⟨ofBytes k2.out, by unfold law5_ints ref0_Ink_Errno ref0_Ink_Told; simp [h1, h3]⟩
end Go.Vx

namespace Go.Vx
open Go Go.RowKit
theorem remC {a b : Int} (h0 : 0 ≤ a) (hb : 1 ≤ b) : rem a b = some (a % b) := by
  unfold rem
  rw [if_neg (by omega), Int.tmod_eq_emod_of_nonneg h0]
theorem quoC {a b : Int} (h0 : 0 ≤ a) (ha : a ≤ 9223372036854775807) (hb : 1 ≤ b) : quo .i64 a b = some (a / b) := by
  unfold quo
  rw [if_neg (by omega), Int.tdiv_eq_ediv_of_nonneg h0]
  have h1 : 0 ≤ a / b := Int.ediv_nonneg h0 (by omega)
  have h2 : a / b ≤ a := Int.ediv_le_self _ h0
  congr 1
  exact i64s (by omega) (by omega)
structure TmOK (p : api_Param) (first : Int) (cells : List api_Cell) : Prop where
  len : cells.length ≤ 1000
  fr : ∀ c ∈ cells, 0 ≤ c.Frame ∧ c.Frame ≤ 15
  inv : CellInv p first [] cells
  tim : 1 ≤ p.Times ∧ p.Times ≤ 57
  fst : 0 ≤ first ∧ first ≤ 4294967296
theorem sampleTimes_s {p : api_Param} {first : Int} {cells : List api_Cell} (h : TmOK p first cells) : series_sampleTimes p cells first = some (cells.map (tmN p first)) := by
  have hl := h.len
  have hT := h.tim
  have hf := h.fst
  have := loop_ix2 (xs := cells) (body := series_sampleTimes_L1 p cells first) (I := fun acc k => acc.length = k) (F := fun acc k => acc ++ (cells.drop k).map (tmN p first))
    (fun acc k c hI hx => by
      have hlt := lt_of hx
      have hc := List.mem_of_getElem? hx
      have hfr := h.fr c hc
      have hp := h.inv.pos c hc
      have hb := div_bd (x := c.Index % p.Times) (T := p.Times) hT.1 (Int.emod_nonneg _ (by omega)) (Int.emod_lt_of_pos _ (by omega))
      have hm0 : 0 ≤ c.Index % p.Times := Int.emod_nonneg _ (by omega)
      have hm1 : c.Index % p.Times < p.Times := Int.emod_lt_of_pos _ (by omega)
      left
      refine ⟨acc ++ [tmN p first c], ?_, by simp [hI], by rw [drop_cons hx]; simp⟩
      simp only [series_sampleTimes_L1, hlt, decide_true, if_true, idx_of hx, Option.bind_some]
      rw [remC hp hT.1, Option.bind_some, i64s (by omega) (by omega), quoC (by omega) (by omega) hT.1, Option.bind_some, i64s (z := first + c.Frame) (by omega) (by omega), i64s (z := 64 * (first + c.Frame)) (by omega) (by omega), i64s (by omega) (by omega), app_of (by simp; omega), Option.bind_some, i64s (by omega) (by omega)]
      rfl)
    (fun acc hI => by simp [series_sampleTimes_L1]) (a0 := []) rfl
  unfold series_sampleTimes
  rw [this]
  simp
theorem kqI_is (a b : Int) : kqI a b = true ↔ a = b := by simp [kqI]
theorem moments_s {p : api_Param} {first : Int} {cells : List api_Cell} (h : TmOK p first cells) : ref5_moments p cells first = some (cells.map (tmN p first)) := by
  have hl := h.len
  have hT := h.tim
  have hf := h.fst
  have := loop_to (body := t3 (ref5_moments_L1 p cells first)) (fun s => ∃ k : Nat, s.2.2 = k ∧ k ≤ cells.length ∧ s.1 = (cells.take k).map (tmN p first) ∧ ∀ f, (mget kqI s.2.1 f).getD 0 = (((cells.take k).countP fun d => decide (d.Frame = f) : Nat) : Int)) (fun s => cells.length - s.2.2.toNat) (fun _ => cells.map (tmN p first)) (by
    rintro ⟨acc, had, i⟩ ⟨k, hi, hk, ha, hh⟩
    simp only at hi ha hh
    subst hi
    rcases Nat.lt_or_ge k cells.length with hlt | hge
    · obtain ⟨c, hx⟩ := get_ex hlt
      have hlt' := lt_of hx
      have hc := List.mem_of_getElem? hx
      have hfr := h.fr c hc
      have hidx := h.inv.idx k c hx
      have hm0 : 0 ≤ c.Index % p.Times := Int.emod_nonneg _ (by omega)
      have hm1 : c.Index % p.Times < p.Times := Int.emod_lt_of_pos _ (by omega)
      have hb := div_bd (x := c.Index % p.Times) (T := p.Times) hT.1 hm0 hm1
      have hal : acc.length = k := by rw [ha]; simp; omega
      have htk : cells.take (k + 1) = cells.take k ++ [c] := by rw [List.take_add_one, hx]; rfl
      left
      refine ⟨(acc ++ [tmN p first c], mput kqI had c.Frame (c.Index % p.Times + 1), (k : Int) + 1), ?_, ⟨k + 1, by push_cast; rfl, hlt, ?_, ?_⟩, by simp only [Int.toNat_natCast]; omega, rfl⟩
      · show ref5_moments_L1 p cells first acc had (k : Int) = _
        simp only [ref5_moments_L1, hlt', decide_true, if_true, idx_of hx, Option.bind_some]
        rw [hh c.Frame, ← hidx, i64s (z := 64 * (c.Index % p.Times)) (by omega) (by omega), quoC (by omega) (by omega) hT.1, Option.bind_some, i64s (z := first + c.Frame) (by omega) (by omega), i64s (z := 64 * (first + c.Frame)) (by omega) (by omega), i64s (by omega) (by omega), app_of (by simp; omega), Option.bind_some, i64s (by omega) (by omega), i64s (by omega) (by omega)]
        rfl
      · simp only; rw [ha, htk]; simp
      · intro f
        simp only
        rw [mget_put kqI_is, htk, List.countP_append]
        by_cases hff : f = c.Frame
        · subst hff
          rw [if_pos rfl, Option.getD_some, hidx]
          simp
        · rw [if_neg hff, hh f]
          have : ¬ c.Frame = f := fun e => hff e.symm
          simp [this]
    · right
      have : k = cells.length := by omega
      subst this
      show ref5_moments_L1 p cells first acc had (cells.length : Int) = _
      rw [ha]
      simp [ref5_moments_L1]) ([], [], 0) ⟨0, rfl, Nat.zero_le _, by simp, fun f => by simp [mget]⟩
  unfold ref5_moments
  rw [this]
  rfl
theorem chkM_one {p : api_Param} (h : chkQ p = 0) : chkM ⟨0, [p]⟩ = 0 := by
  have hp := par_ok h
  have h9 := cellsN_len (number := 0) hp.toPartsOK
  have e : allC 0 [p] = cellsN 0 p := by simp [allC]
  unfold chkM
  simp only
  rw [if_pos (by decide), if_pos (by simp), e]
  have hf : findI (g1M [p]) 0 [p] = none := by simp [findI, g1M, h]
  rw [hf]
  simp only [elimO_none]
  rw [if_pos (by omega), if_pos hp.uniq]
theorem cellsN_fr {p : api_Param} (h : ParOK p) (number : Int) : ∀ c ∈ cellsN number p, (0 ≤ c.Frame ∧ c.Frame ≤ 15) ∧ c.Param = number := by
  intro c hc
  obtain ⟨hE, hF, _⟩ := timA_iff h.tim
  obtain ⟨i, f, j, hf, hj, rfl⟩ := cellsN_mem hc
  have := stL_mem (p := p) (by omega) 17 p.First f hF.1 hf
  exact ⟨⟨this.1, by have := this.2.1; simp only [cellL]; omega⟩, rfl⟩
theorem tmOK {p : api_Param} (h : ParOK p) (number : Int) {first : Int} (hf : 0 ≤ first ∧ first ≤ 4294967296) : TmOK p first (cellsN number p) where
  len := by have := cellsN_len (number := number) h.toPartsOK; omega
  fr := fun c hc => (cellsN_fr h number c hc).1
  inv := cells_inv h number first
  tim := (timA_iff h.tim).2.2.1
  fst := hf
theorem rCells_s (m : api_Map) (hs : wf_api_Map m) : ref2_Cells m = some (if chkM m = 0 then (allC 0 m.Params, 0) else ([], chkM m)) := by
  obtain ⟨a, hc⟩ := rcheck_s m hs
  unfold ref2_Cells
  rw [hc, Option.bind_some]
  by_cases h : chkM m = 0
  · rw [if_neg (by simp [h]), if_pos h, racells_s (map_ok h)]; rfl
  · rw [if_pos (neq_s h), if_neg h]
theorem cellsOf_s {m : api_Map} (hs : wf_api_Map m) (h : chkM m = 0) (n : Int) : ref5_cellsOf m n = some ((allC 0 m.Params).filter fun c => decide (c.Param = n)) := by
  have hm := map_ok h
  have hcnt := hm.cnt
  unfold ref5_cellsOf
  rw [rCells_s m hs, if_pos h, Option.bind_some]
  have := loop_ix2 (xs := allC 0 m.Params) (body := ref5_cellsOf_L1 n (allC 0 m.Params, 0)) (I := fun acc k => acc.length ≤ k) (F := fun acc k => acc ++ ((allC 0 m.Params).drop k).filter fun c => decide (c.Param = n))
    (fun acc k c hI hx => by
      have hlt := lt_of hx
      left
      rw [drop_cons hx]
      by_cases hc : c.Param = n
      · refine ⟨acc ++ [c], ?_, by simp; omega, by simp [hc]⟩
        simp only [ref5_cellsOf_L1, hlt, decide_true, if_true, idx_of hx, Option.bind_some, hc]
        rw [app_of (by simp; omega), Option.bind_some, i64s (by omega) (by omega)]
      · refine ⟨acc, ?_, by omega, by simp [hc]⟩
        simp only [ref5_cellsOf_L1, hlt, decide_true, if_true, idx_of hx, Option.bind_some, hc, decide_false, Bool.false_eq_true, if_false]
        rw [i64s (by omega) (by omega)])
    (fun acc hI => by simp [ref5_cellsOf_L1]) (a0 := []) (by simp)
  rw [this]
  simp
theorem cellsOf_one {p : api_Param} (hs : wf_api_Param p) (h : chkQ p = 0) : ref5_cellsOf ⟨0, [p]⟩ 0 = some (cellsN 0 p) := by
  have hw : wf_api_Map ⟨0, [p]⟩ := ⟨(by unfold wfI; decide : wfI .i64 0), ⟨by simp, fun x hx => by rw [List.mem_singleton.1 hx]; exact hs⟩, trivial⟩
  rw [cellsOf_s hw (chkM_one h)]
  congr 1
  have e : allC 0 [p] = cellsN 0 p := by simp [allC]
  simp only [e]
  rw [List.filter_eq_self]
  intro c hc
  have := (cellsN_fr (par_ok h) 0 c hc).2
  simpa using this
def outT (p : api_Param) (first : Int) : List Int × Int :=
  if chkQ p = 0 then (if wi first 0 4194288 = true then (if first % 16 = 0 then ((cellsN 0 p).map (tmN p first), 0) else ([], 2)) else ([], 9)) else ([], chkQ p)
theorem STimes_s (p : api_Param) (first : Int) : series_Times p first = some (outT p first) := by
  unfold series_Times outT
  rw [CheckParam_s, Option.bind_some]
  by_cases h : chkQ p = 0
  · rw [if_neg (by simp [h]), if_pos h, within_s, Option.bind_some]
    by_cases hw : wi first 0 4194288 = true
    · have hw' := wi_iff.1 hw
      rw [if_neg (by simp [hw]), if_pos hw, remC (by omega) (by omega), Option.bind_some]
      by_cases h16 : first % 16 = 0
      · rw [if_neg (by simp [h16]), if_pos h16, Cells_s, if_pos (chkM_one h), Option.bind_some]
        have e : allC 0 [p] = cellsN 0 p := by simp [allC]
        simp only [e]
        rw [sampleTimes_s (tmOK (par_ok h) 0 (by omega))]; rfl
      · rw [if_pos (by simpa using h16), if_neg h16]
    · rw [if_pos (by simpa using hw), if_neg hw]
  · rw [if_pos (neq_s h), if_neg h]
theorem rSTimes_s (p : api_Param) (first : Int) (hs : wf_api_Param p) : ref5_Times p first = some (outT p first) := by
  unfold ref5_Times outT
  rw [rCheckParam_s p hs, Option.bind_some]
  by_cases h : chkQ p = 0
  · rw [if_neg (by simp [h]), if_pos h, outside_s, Option.bind_some]
    by_cases hw : wi first 0 4194288 = true
    · have hw' := wi_iff.1 hw
      rw [if_neg (by simp [hw]), if_pos hw, remC (by omega) (by omega), Option.bind_some]
      by_cases h16 : first % 16 = 0
      · rw [if_neg (by simp [h16]), if_pos h16, cellsOf_one hs h, Option.bind_some, moments_s (tmOK (par_ok h) 0 (by omega))]; rfl
      · rw [if_pos (by simpa using h16), if_neg h16]
    · rw [if_pos (by simpa using hw), if_neg hw]
  · rw [if_pos (neq_s h), if_neg h]
theorem outT_len (p : api_Param) (first : Int) : (outT p first).1.length ≤ 1000 := by
  unfold outT
  split
  · rename_i h
    split
    · split
      · have := cellsN_len (number := 0) (par_ok h).toPartsOK
        simp; omega
      · simp
    · simp
  · simp
theorem outT_sort (p : api_Param) (first : Int) : (outT p first).1.Pairwise (· < ·) := by
  unfold outT
  split
  · rename_i h
    split
    · split
      · exact (cells_inv (par_ok h) 0 first).sort
      · exact .nil
    · exact .nil
  · exact .nil
theorem law_STimes (p : api_Param) (first : Int) (hs : wf_api_Param p) : law5_SeriesTimesMatchSpec p first = some true := by
  have hl := outT_len p first
  obtain ⟨t, ht⟩ := ints_t (outT p first).1 (outT p first).2 (by omega)
  unfold law5_SeriesTimesMatchSpec
  rw [STimes_s, Option.bind_some, ht, Option.bind_some, rSTimes_s p first hs, Option.bind_some, ht, Option.bind_some, if_neg (by simp)]
  have hsort := outT_sort p first
  generalize outT p first = y at hl hsort
  have := loop_to (body := t1 (law5_SeriesTimesMatchSpec_L1 y)) (fun i => ∃ k : Nat, i = k ∧ 1 ≤ k) (fun i => y.1.length - i.toNat) (fun _ => (Sum.inr () : Bool ⊕ Unit)) (by
    rintro i ⟨k, rfl, hk⟩
    show (∃ s', law5_SeriesTimesMatchSpec_L1 y (k : Int) = _ ∧ _) ∨ law5_SeriesTimesMatchSpec_L1 y (k : Int) = _
    rcases Nat.lt_or_ge k y.1.length with h | h
    · left
      obtain ⟨x, hx⟩ := get_ex h
      obtain ⟨x2, hx2⟩ := get_ex (xs := y.1) (k := k - 1) (by omega)
      have hlt := lt_of hx
      have e1 : i64 ((k : Int) - 1) = ((k - 1 : Nat) : Int) := by rw [i64s (by omega) (by omega)]; omega
      have hxx : x2 < x := by
        obtain ⟨a1, rfl⟩ := List.getElem?_eq_some_iff.1 hx
        obtain ⟨a2, rfl⟩ := List.getElem?_eq_some_iff.1 hx2
        exact List.pairwise_iff_getElem.1 hsort _ _ a2 a1 (by omega)
      refine ⟨(k : Int) + 1, ?_, ⟨k + 1, by push_cast; rfl, by omega⟩, by omega, rfl⟩
      simp only [law5_SeriesTimesMatchSpec_L1, hlt, decide_true, if_true, idx_of hx, Option.bind_some, e1, idx_of hx2]
      rw [if_neg (by simp; omega), i64s (by omega) (by omega)]
    · right
      have : ¬ (k : Int) < (y.1.length : Int) := by omega
      simp [law5_SeriesTimesMatchSpec_L1, this]) 1 ⟨1, rfl, by omega⟩
  rw [this]
  simp only [Option.bind_some, Sum.elim_inr, t0, holds_s]
end Go.Vx
