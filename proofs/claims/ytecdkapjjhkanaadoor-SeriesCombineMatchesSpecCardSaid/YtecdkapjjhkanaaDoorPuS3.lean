/- A text of the proof: a verified executor of the program form, or the contracts of the functions that the law reaches. -/
import Derived.Test.YtecdkapjjhkanaaDoorPuS2
set_option linter.all false
namespace Go.Vx
open Go Go.RowKit
theorem cnt_uniq {xs : List Smp} {t : Int} {c : Nat} (hr : ∀ (i j : Nat) x y, i < j → xs[i]? = some x → xs[j]? = some y → x.At < y.At) (hc : c ≤ xs.length)
    (h1 : ∀ (k : Nat) x, k < c → xs[k]? = some x → x.At ≤ t) (h2 : ∀ (k : Nat) x, c ≤ k → xs[k]? = some x → t < x.At) : cntLe xs t = c := by
  obtain ⟨g1, g2⟩ := cnt_split xs t hr
  have hl := cnt_le xs t
  rcases Nat.lt_trichotomy (cntLe xs t) c with h | h | h
  · obtain ⟨x, hx⟩ := get_ex (xs := xs) (k := cntLe xs t) (by omega)
    have := h1 _ x h hx; have := g2 _ x (Nat.le_refl _) hx; omega
  · exact h
  · obtain ⟨x, hx⟩ := get_ex (xs := xs) (k := c) (by omega)
    have := g1 _ x h hx; have := h2 _ x (Nat.le_refl _) hx; omega
/-- the middle, as the library takes it -/
theorem mid_s {i j : Nat} (h : i + j < 4611686018427387904) : shr .u64 (u64 (i64 ((i : Int) + j))) 1 = some (((i + j) / 2 : Nat) : Int) := by
  rw [i64, u64, i64_id (by omega) (by omega), u64_id (by omega) (by omega), shr, if_neg (by decide)]
  have : min (1 : Int).toNat IntKind.u64.bits = 1 := by decide
  rw [this]
  congr 1
  rw [Int.fdiv_eq_ediv_of_nonneg _ (by decide)]
  omega
theorem bs_s {xs : List Smp} {t : Int} (hlen : (xs.length : Int) ≤ 20000) (hat : ∀ (k : Nat) x, xs[k]? = some x → 0 ≤ x.At ∧ x.At ≤ 1099511627776)
    (hr : ∀ (i j : Nat) x y, i < j → xs[i]? = some x → xs[j]? = some y → x.At < y.At) (ht : 0 ≤ t ∧ t ≤ 1099511627776) :
    slices_BinarySearchFunc_api_Sample_api_Sample_int xs t (fun z0 z1 => series_latest_1 z0 z1) = some ((cntLe xs (t - 1) : Int), decide (∃ x, xs[cntLe xs (t - 1)]? = some x ∧ x.At = t)) := by
  obtain ⟨hc1, hc2⟩ := cnt_split xs (t - 1) hr
  have hcl := cnt_le xs (t - 1)
  have hcmp : ∀ (k : Nat) x, xs[k]? = some x → series_latest_1 x t = some (x.At - t) := fun k x hx => by
    have := hat k x hx
    simp only [series_latest_1, i64]
    rw [i64_id (by omega) (by omega)]
  have hl : loop (t2 (slices_BinarySearchFunc_api_Sample_api_Sample_int_L1 xs t (fun z0 z1 => series_latest_1 z0 z1))) (0, (xs.length : Int)) = some ((cntLe xs (t - 1) : Nat) : Int) := by
    refine search_halves xs.length (cntLe xs (t - 1)) (fun k => (k : Int)) hcl (by omega) (fun i j m hij hj hm => ?_) (fun i => ?_)
    · obtain ⟨x, hx⟩ := get_ex (xs := xs) (k := m) (by omega)
      have h2 : (i : Int) < j := by omega
      have hm' : shr .u64 (u64 (i64 ((i : Int) + j))) 1 = some (m : Int) := by rw [mid_s (by omega), hm]
      have hmi : i64 (m : Int) = m := i64_id (by omega) (by omega)
      simp only [slices_BinarySearchFunc_api_Sample_api_Sample_int_L1, h2, decide_true, if_true, hm', Option.bind_some, hmi, idx_of hx, hcmp m x hx]
      refine ⟨fun h => ?_, fun h => ?_⟩
      · have := hc1 m x h hx
        simp [show x.At - t < 0 by omega, i64_id (show -9223372036854775808 ≤ (m : Int) + 1 by omega) (by omega)]
      · have := hc2 m x h hx
        simp [show ¬ x.At - t < 0 by omega]
    · simp [slices_BinarySearchFunc_api_Sample_api_Sample_int_L1]
  simp only [slices_BinarySearchFunc_api_Sample_api_Sample_int, hl, Option.bind_some, t1]
  rcases Nat.lt_or_ge (cntLe xs (t - 1)) xs.length with h | h
  · obtain ⟨x, hx⟩ := get_ex h
    have h' : ((cntLe xs (t - 1) : Nat) : Int) < xs.length := by omega
    simp only [h', decide_true, idx_of hx, gd_tt, Option.bind_some, hcmp _ x hx, hx, Bool.true_and, Option.some.injEq, exists_eq_left', Prod.mk.injEq, true_and]
    simp only [decide_eq_decide]; omega
  · have h' : ¬ ((cntLe xs (t - 1) : Nat) : Int) < xs.length := by omega
    simp [gd, h, List.getElem?_eq_none h, show ¬ cntLe xs (t - 1) < xs.length by omega]
theorem latest_s {s : api_Series} (hs : SerOK s) {t : Int} (ht : 0 ≤ t ∧ t ≤ 1099511627776) : series_latest s t = some ((cntLe s.Samples t : Int) - 1) := by
  have hlen := hs.len
  obtain ⟨hc1, hc2⟩ := cnt_split s.Samples (t - 1) hs.rise
  have hcl := cnt_le s.Samples (t - 1)
  simp only [series_latest, bs_s hlen (fun k x hx => (hs.at' k x hx).1) hs.rise ht, Option.bind_some]
  by_cases hf : ∃ x, s.Samples[cntLe s.Samples (t - 1)]? = some x ∧ x.At = t
  · obtain ⟨x, hx, hxt⟩ := hf
    have hlt := (List.getElem?_eq_some_iff.1 hx).1
    have : cntLe s.Samples t = cntLe s.Samples (t - 1) + 1 := cnt_uniq hs.rise (by omega) (fun k y hk hy => by
        rcases Nat.lt_or_ge k (cntLe s.Samples (t - 1)) with h | h
        · have := hc1 k y h hy; omega
        · have : k = cntLe s.Samples (t - 1) := by omega
          subst this; rw [hx] at hy; cases hy; omega) (fun k y hk hy => by
        have := hs.rise _ _ _ _ (show cntLe s.Samples (t - 1) < k by omega) hx hy; omega)
    have hd : (∃ x, s.Samples[cntLe s.Samples (t - 1)]? = some x ∧ x.At = t) := ⟨x, hx, hxt⟩
    simp only [hd, decide_true, if_true, this]
    congr 1; omega
  · have : cntLe s.Samples t = cntLe s.Samples (t - 1) := cnt_uniq hs.rise hcl (fun k y hk hy => by have := hc1 k y hk hy; omega) (fun k y hk hy => by
        have h1 := hc2 k y hk hy
        rcases Nat.lt_or_ge (cntLe s.Samples (t - 1)) k with h | h
        · obtain ⟨x, hx⟩ := get_ex (xs := s.Samples) (k := cntLe s.Samples (t - 1)) (by have := (List.getElem?_eq_some_iff.1 hy).1; omega)
          have := hs.rise _ _ _ _ h hx hy
          have := hc2 _ x (Nat.le_refl _) hx; omega
        · have : k = cntLe s.Samples (t - 1) := by omega
          subst this
          have : ¬ y.At = t := fun e => hf ⟨y, hy, e⟩
          omega)
    simp only [hf, decide_false, this, i64, Bool.false_eq_true, if_false]
    rw [i64_id (by omega) (by omega)]
theorem hold_s {s : api_Series} (hs : SerOK s) (t long : Int) (ht : 0 ≤ t ∧ t ≤ 1099511627776) : series_hold s t long = some (outH (heldAt s.Samples t long)) := by
  have hlen := hs.len
  have hcl := cnt_le s.Samples t
  simp only [series_hold, latest_s hs ht, Option.bind_some]
  by_cases h0 : cntLe s.Samples t = 0
  · simp [h0, heldAt, lastLe, outH, z0, gd]
  · obtain ⟨x, hx⟩ := get_ex (xs := s.Samples) (k := cntLe s.Samples t - 1) (by omega)
    have hi : idx s.Samples ((cntLe s.Samples t : Int) - 1) = some x := by
      rw [show ((cntLe s.Samples t : Int) - 1) = ((cntLe s.Samples t - 1 : Nat) : Int) by omega, idx_of hx]
    obtain ⟨hx1, _, _, _⟩ := hs.at' _ _ hx
    have hw : IntKind.i64.wrap (t - x.At) = t - x.At := i64_id (by omega) (by omega)
    have hn : ¬ ((cntLe s.Samples t : Int) - 1 < 0) := by omega
    simp only [h0, hi, hn, series_solid, heldAt, lastLe, hx, hw, Option.bind_some, i64, decide_false, if_false, Bool.false_eq_true]
    by_cases h3 : 3 ≤ x.Mark
    · by_cases h4 : long < t - x.At
      · simp [h3, h4, outH, z0, show ¬ t - x.At ≤ long by omega, hw]
      · simp [h3, h4, outH, show t - x.At ≤ long by omega, hw]
    · simp [h3, outH, z0]
def outHold (s : api_Series) (t long : Int) : Smp × Bool × Int :=
  if (chk s).2 ≠ 0 then (z0, false, (chk s).2) else if wi t 0 1099511627776 && wi long 0 1099511627776 then ((outH (heldAt s.Samples t long)).1, (outH (heldAt s.Samples t long)).2, 0) else (z0, false, 9)
theorem Hold_s (s : api_Series) (t long : Int) : series_Hold s t long = some (outHold s t long) := by
  simp only [series_Hold, Check_s, within_s, Option.bind_some, outHold]
  by_cases h0 : (chk s).2 = 0
  · cases h1 : wi t 0 1099511627776 with
    | false => simp [h0, z0]
    | true => cases h2 : wi long 0 1099511627776 with
      | false => simp [h0, z0]
      | true => simp [h0, hold_s (ser_ok h0) t long (wi_iff.1 h1)]
  · simp [h0, z0]
theorem rHold_s (s : api_Series) (t long : Int) : ref5_Hold s t long = some (outHold s t long) := by
  simp only [ref5_Hold, rCheck_s, outside_s, Option.bind_some, outHold]
  by_cases h0 : (chk s).2 = 0
  · cases h1 : wi t 0 1099511627776 with
    | false => simp [h0, z0]
    | true => cases h2 : wi long 0 1099511627776 with
      | false => simp [h0, z0]
      | true => simp [h0, rHeld_s (ser_ok h0) t long (wi_iff.1 h1)]
  · simp [h0, z0]
theorem holds_s : law5_holds = some true := by
  have hc : chk (api_Series.mk 1 [api_Sample.mk 5 7 4]) = (-1, 0) := by decide
  simp only [law5_holds, Hold_s, Option.bind_some, outHold, hc]
  decide
end Go.Vx
