/- A text of the proof: a verified executor of the program form, or the contracts of the functions that the law reaches. -/
import Derived.Test.YtecdkapjjhkanaaDoorPuS1
set_option linter.all false
namespace Go.Vx
open Go Go.RowKit
/-! ## Hold -/
/-- how many samples are not later than t -/
def cntLe (xs : List Smp) (t : Int) : Nat := xs.countP fun x => decide (x.At ≤ t)
theorem cnt_split : ∀ (xs : List Smp) (t : Int), (∀ (i j : Nat) x y, i < j → xs[i]? = some x → xs[j]? = some y → x.At < y.At) →
    (∀ (k : Nat) x, k < cntLe xs t → xs[k]? = some x → x.At ≤ t) ∧ (∀ (k : Nat) x, cntLe xs t ≤ k → xs[k]? = some x → t < x.At)
  | [], _, _ => ⟨fun k x h => by simp [cntLe] at h, fun k x _ h => by simp at h⟩
  | x :: tl, t, hr => by
    obtain ⟨h1, h2⟩ := cnt_split tl t fun i j u v hij hu hv => hr (i + 1) (j + 1) u v (by omega) (by simpa using hu) (by simpa using hv)
    have hx : ∀ (j : Nat) y, tl[j]? = some y → x.At < y.At := fun j y hy => hr 0 (j + 1) x y (by omega) rfl (by simpa using hy)
    by_cases hc : x.At ≤ t
    · have e : cntLe (x :: tl) t = cntLe tl t + 1 := by simp [cntLe, hc]
      rw [e]
      refine ⟨fun k y hk hy => ?_, fun k y hk hy => ?_⟩
      · cases k with
        | zero => simp at hy; subst hy; exact hc
        | succ k => exact h1 k y (by omega) (by simpa using hy)
      · cases k with
        | zero => omega
        | succ k => exact h2 k y (by omega) (by simpa using hy)
    · have e0 : cntLe tl t = 0 := by
        unfold cntLe
        rw [List.countP_eq_zero]
        intro y hy
        obtain ⟨j, hj⟩ := List.mem_iff_getElem?.1 hy
        have := hx j y hj
        simp; omega
      have e : cntLe (x :: tl) t = 0 := by
        have : cntLe (x :: tl) t = cntLe tl t := by simp [cntLe, hc]
        rw [this, e0]
      rw [e]
      refine ⟨fun k y hk _ => by omega, fun k y _ hy => ?_⟩
      cases k with
      | zero => simp at hy; subst hy; omega
      | succ k => have := hx k y (by simpa using hy); omega
theorem cnt_le (xs : List Smp) (t : Int) : cntLe xs t ≤ xs.length := List.countP_le_length
/-- the last sample that is not later than t -/
def lastLe (xs : List Smp) (t : Int) : Option Smp := if cntLe xs t = 0 then none else xs[cntLe xs t - 1]?
def heldAt (xs : List Smp) (t long : Int) : Option Smp := (lastLe xs t).bind fun x => if 3 ≤ x.Mark ∧ t - x.At ≤ long then some x else none
def z0 : Smp := api_Sample.mk 0 0 0
def outH (o : Option Smp) : Smp × Bool := match o with | some x => (x, true) | none => (z0, false)

/-- A search that halves. 'p': ahead of the place. -/
theorem search_halves {ρ : Type} {body : Int → Int → Option ((Int × Int) ⊕ ρ)} (n c : Nat) (F : Nat → ρ) (hc : c ≤ n) (hn : n ≤ 4611686018427387904)
    (hstep : ∀ (i j m : Nat), i < j → j ≤ n → m = (i + j) / 2 → (m < c → body i j = some (.inl ((m : Int) + 1, j))) ∧ (c ≤ m → body i j = some (.inl (i, (m : Int)))))
    (hend : ∀ i : Nat, body i i = some (.inr (F i))) : loop (t2 body) (0, (n : Int)) = some (F c) := by
  refine loop_to (body := t2 body) (fun p => ∃ i j : Nat, p = ((i : Int), (j : Int)) ∧ i ≤ c ∧ c ≤ j ∧ j ≤ n) (fun p => (p.2 - p.1).toNat) (fun _ => F c) ?_ _ ⟨0, n, rfl, Nat.zero_le _, hc, Nat.le_refl _⟩
  rintro _ ⟨i, j, rfl, h1, h2, h3⟩
  simp only [t2_mk]
  rcases Nat.lt_or_ge i j with h | h
  · obtain ⟨g1, g2⟩ := hstep i j ((i + j) / 2) h h3 rfl
    rcases Nat.lt_or_ge ((i + j) / 2) c with h4 | h4
    · exact .inl ⟨_, g1 h4, ⟨(i + j) / 2 + 1, j, by push_cast; rfl, h4, h2, h3⟩, by simp only; omega, by trivial⟩
    · exact .inl ⟨_, g2 h4, ⟨i, (i + j) / 2, rfl, h1, h4, by omega⟩, by simp only; omega, by trivial⟩
  · have e1 : i = c := by omega
    have e2 : j = c := by omega
    subst e1; subst e2
    exact .inr (hend _)

theorem rHeld_s {s : api_Series} (hs : SerOK s) (t long : Int) (ht : 0 ≤ t ∧ t ≤ 1099511627776) : ref5_Held s t long = some (outH (heldAt s.Samples t long)) := by
  have hlen := hs.len
  obtain ⟨hc1, hc2⟩ := cnt_split s.Samples t hs.rise
  have hcl := cnt_le s.Samples t
  have hl : loop (t2 (ref5_Held_L1 s t)) (0, (s.Samples.length : Int)) = some ((cntLe s.Samples t : Nat) : Int) := by
    refine search_halves s.Samples.length (cntLe s.Samples t) (fun k => (k : Int)) hcl (by omega) (fun i j m hij hj hm => ?_) (fun i => ?_)
    · obtain ⟨x, hx⟩ := get_ex (xs := s.Samples) (k := m) (by omega)
      have hq : quo .i64 (i64 ((i : Int) + j)) 2 = some (m : Int) := by
        rw [i64, i64_id (by omega) (by omega), quo, if_neg (by decide), Int.tdiv_eq_ediv_of_nonneg (by omega), i64_id (by omega) (by omega)]
        congr 1; omega
      have h2 : (i : Int) < j := by omega
      simp only [ref5_Held_L1, h2, decide_true, if_true, hq, Option.bind_some, idx_of hx]
      refine ⟨fun h => ?_, fun h => ?_⟩
      · have := hc1 m x h hx
        simp [this, i64_id (show -9223372036854775808 ≤ (m : Int) + 1 by omega) (by omega)]
      · have := hc2 m x h hx
        simp [show ¬ x.At ≤ t by omega]
    · simp [ref5_Held_L1]
  simp only [ref5_Held, hl, Option.bind_some, t1]
  by_cases h0 : cntLe s.Samples t = 0
  · simp [h0, heldAt, lastLe, outH, z0]
  · obtain ⟨x, hx⟩ := get_ex (xs := s.Samples) (k := cntLe s.Samples t - 1) (by omega)
    have hi : idx s.Samples (IntKind.i64.wrap ((cntLe s.Samples t : Int) - 1)) = some x := by
      rw [i64_id (by omega) (by omega), show ((cntLe s.Samples t : Int) - 1) = ((cntLe s.Samples t - 1 : Nat) : Int) by omega, idx_of hx]
    obtain ⟨hx1, _, _, _⟩ := hs.at' _ _ hx
    have hw : IntKind.i64.wrap (t - x.At) = t - x.At := i64_id (by omega) (by omega)
    simp only [h0, hi, ref5_solid, heldAt, lastLe, hx, hw, Option.bind_some, i64, decide_false, if_false, Int.natCast_eq_zero, Bool.false_eq_true]
    by_cases h3 : 3 ≤ x.Mark
    · by_cases h4 : long < t - x.At
      · simp [h3, h4, outH, z0, show ¬ t - x.At ≤ long by omega]
      · simp [h3, h4, outH, show t - x.At ≤ long by omega]
    · simp [h3, outH, z0]
end Go.Vx
