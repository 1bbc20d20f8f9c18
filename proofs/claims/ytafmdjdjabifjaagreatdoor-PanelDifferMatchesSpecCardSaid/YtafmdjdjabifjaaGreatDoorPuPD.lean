/- A text of the proof: a verified executor of the program form, or the contracts of the functions that the law reaches. -/
import Derived.Test.YtafmdjdjabifjaaGreatDoorFP
import Derived.Test.YtafmdjdjabifjaaGreatDoorPA
set_option linter.all false
namespace Go.Vx
open Go Go.RowKit
theorem nDigits_le : ∀ (k u : Nat), u < 10 ^ (k + 1) → Go.Lib.nDigits u ≤ k + 1
  | 0, u, h => by rw [Go.Lib.nDigits_small (by simpa using h)]; exact Nat.le_refl _
  | k + 1, u, h => by
    by_cases h1 : u < 10
    · rw [Go.Lib.nDigits_small h1]; omega
    · rw [Go.Lib.nDigits_big h1]
      have := nDigits_le k (u / 10) (by rw [Nat.pow_succ] at h; omega)
      omega
theorem itoa_t {z : Int} (h0 : 0 ≤ z) (h1 : z < 1000000000000000000) : ∃ d, itoa z = some d ∧ 1 ≤ d.length ∧ d.length ≤ 18 := by
  obtain ⟨u, rfl⟩ := Int.eq_ofNat_of_zero_le h0
  refine ⟨Go.Lib.decDigits u, ?_, ?_, ?_⟩
  · unfold itoa
    rw [if_pos ⟨by omega, by omega⟩]
    unfold Go.Lib.itoa
    rw [if_neg (by omega)]; simp
  · rw [Go.Lib.decDigits_length]; exact Go.Lib.nDigits_pos u
  · rw [Go.Lib.decDigits_length]
    have e : (10 : Nat) ^ (17 + 1) = 1000000000000000000 := by decide
    exact nDigits_le 17 u (by rw [e]; omega)
theorem pow_b {k : Nat} (h : k ≤ 6) : (1 : Int) ≤ 10 ^ k ∧ (10 : Int) ^ k ≤ 1000000 := by
  obtain rfl | rfl | rfl | rfl | rfl | rfl | rfl : k = 0 ∨ k = 1 ∨ k = 2 ∨ k = 3 ∨ k = 4 ∨ k = 5 ∨ k = 6 := by omega
  all_goals decide
theorem pow_loop {m : Nat} (hm : m ≤ 6) (body : Int → Int → Option ((Int × Int) ⊕ Int))
    (hb : ∀ s i : Int, body s i = if decide (i < (m : Int)) = true then some (.inl (i64 (s * 10), i64 (i + 1))) else some (.inr s)) : loop (t2 body) (1, 0) = some ((10 : Int) ^ m) := by
  refine loop_to (body := t2 body) (fun p => ∃ k : Nat, p = ((10 : Int) ^ k, (k : Int)) ∧ k ≤ m) (fun p => m - p.2.toNat) (fun _ => (10 : Int) ^ m) ?_ (1, 0) ⟨0, rfl, Nat.zero_le _⟩
  rintro ⟨s, i⟩ ⟨k, he, hk⟩
  obtain ⟨rfl, rfl⟩ := Prod.mk.inj he
  simp only [t2_mk, hb]
  by_cases h : k < m
  · have h' : (k : Int) < m := by omega
    have hp := pow_b (k := k) (by omega)
    rw [if_pos (decide_eq_true h')]
    refine .inl ⟨_, rfl, ⟨k + 1, ?_, h⟩, ?_, trivial⟩
    · rw [show i64 ((10 : Int) ^ k * 10) = 10 ^ k * 10 from i64_id (by omega) (by omega), show i64 ((k : Int) + 1) = k + 1 from i64_id (by omega) (by omega)]
      rw [Int.pow_succ]; rfl
    · rw [show i64 ((k : Int) + 1) = k + 1 from i64_id (by omega) (by omega)]
      simp only; omega
  · obtain rfl : k = m := by omega
    rw [if_neg (by simp)]
    exact .inr rfl
theorem cat_of {s t : Str} (h : s.length + t.length ≤ 9223372036854775807) : cat s t = some (s ++ t) := by simp [cat, h]
theorem slc1 {s : Str} (h : 1 ≤ s.length) : slc s 1 (s.length : Int) = some (s.drop 1) := by
  unfold slc
  rw [if_pos ⟨by omega, by omega, Int.le_refl _⟩]
  simp
theorem Digits_t {n den places : Int} (hn1 : -1125899906842624 ≤ n) (hn2 : n ≤ 1125899906842624) (hd1 : 1 ≤ den) (hd2 : den ≤ 1000000) (hp1 : 0 ≤ places) (hp2 : places ≤ 6) :
    ∃ s, panel_digits n den places = some s ∧ ref8_digits n den places = some s ∧ s.length ≤ 41 := by
  obtain ⟨m, rfl⟩ := Int.eq_ofNat_of_zero_le hp1
  have hm : m ≤ 6 := by omega
  obtain ⟨hS1, hS2⟩ := pow_b hm
  have hl1 := pow_loop hm (panel_digits_L1 (m : Int)) (fun _ _ => rfl)
  have hl2 := pow_loop hm (ref8_digits_L1 (m : Int)) (fun _ _ => rfl)
  generalize hS : (10 : Int) ^ m = S at hS1 hS2 hl1 hl2
  have ea : max n (i64 (-n)) = if n < 0 then -n else n := by
    rw [show i64 (-n) = -n from i64_id (by omega) (by omega)]
    split <;> omega
  have en : i64 (-n) = -n := i64_id (by omega) (by omega)
  generalize hA : (if n < 0 then -n else n) = A at ea
  have hA1 : 0 ≤ A := by rw [← hA]; split <;> omega
  have hA2 : A ≤ 1125899906842624 := by rw [← hA]; split <;> omega
  have hd0 : den ≠ 0 := by omega
  have hq1 : 0 ≤ A / den := Int.ediv_nonneg hA1 (by omega)
  have hq2 : A / den ≤ A := Int.ediv_le_self _ hA1
  have hr1 : 0 ≤ A % den := Int.emod_nonneg _ hd0
  have hr2 : A % den < den := Int.emod_lt_of_pos _ (by omega)
  have eq1 : quo .i64 A den = some (A / den) := by
    unfold quo
    rw [if_neg hd0, Int.tdiv_eq_ediv_of_nonneg hA1, i64_id (by omega) (by omega)]
  have eq2 : Go.Vx.rem A den = some (A % den) := by
    unfold Go.Vx.rem
    rw [if_neg hd0, Int.tmod_eq_emod_of_nonneg hA1]
  generalize A / den = q at *
  generalize A % den = r at *
  have hrS0 : 0 ≤ r * S := Int.mul_nonneg hr1 (by omega)
  have hrS : r * S ≤ (den - 1) * S := Int.mul_le_mul_of_nonneg_right (by omega) (by omega)
  have hrS2 : r * S ≤ 1000000 * 1000000 := Int.mul_le_mul (by omega) hS2 (by omega) (by omega)
  have hdS : (den - 1) * S = den * S - S := by rw [Int.sub_mul, Int.one_mul]
  have e1 : i64 (r * S) = r * S := i64_id (by omega) (by omega)
  have e2 : i64 (r * S * 2) = r * S * 2 := i64_id (by omega) (by omega)
  have e3 : i64 (r * S * 2 + den) = r * S * 2 + den := i64_id (by omega) (by omega)
  have e4 : i64 (2 * den) = 2 * den := i64_id (by omega) (by omega)
  have e5 : i64 (2 * S) = 2 * S := i64_id (by omega) (by omega)
  have e6 : 2 * S * r = r * S * 2 := by rw [Int.mul_assoc, Int.mul_comm 2, Int.mul_comm S]
  have hN : 0 ≤ r * S * 2 + den := by omega
  have hq3 : 0 ≤ (r * S * 2 + den) / (2 * den) := Int.ediv_nonneg hN (by omega)
  have hq4 : (r * S * 2 + den) / (2 * den) ≤ S := by
    have : (r * S * 2 + den) / (2 * den) < S + 1 := by
      refine Int.ediv_lt_of_lt_mul (by omega) ?_
      have : (S + 1) * (2 * den) = 2 * (den * S) + 2 * den := by
        rw [Int.add_mul, Int.one_mul, Int.mul_left_comm S 2 den, Int.mul_comm S den]
      omega
    omega
  have eq3 : quo .i64 (r * S * 2 + den) (2 * den) = some ((r * S * 2 + den) / (2 * den)) := by
    unfold quo
    rw [if_neg (by omega), Int.tdiv_eq_ediv_of_nonneg hN, i64_id (by omega) (by omega)]
  generalize (r * S * 2 + den) / (2 * den) = w at *
  have e7 : i64 (q + 1) = q + 1 := i64_id (by omega) (by omega)
  obtain ⟨W, Q, hWQ, hW1, hW2, hQ1, hQ2⟩ : ∃ W Q : Int, (if decide (w = S) = true then some (q + 1, (0 : Int)) else some (q, w)) = some (W, Q) ∧ 0 ≤ W ∧ W ≤ 1125899906842625 ∧ 0 ≤ Q ∧ Q ≤ S := by
    by_cases h : w = S
    · exact ⟨q + 1, 0, by rw [if_pos (decide_eq_true h)], by omega, by omega, by omega, by omega⟩
    · exact ⟨q, w, by rw [if_neg (by simpa using h)], by omega, by omega, by omega, by omega⟩
  obtain ⟨d, hd, hdl1, hdl2⟩ := itoa_t (z := W) hW1 (by omega)
  obtain ⟨f, hf, hfl1, hfl2⟩ := itoa_t (z := S + Q) (by omega) (by omega)
  have e8 : i64 (S + Q) = S + Q := i64_id (by omega) (by omega)
  obtain ⟨o, ho, hol⟩ : ∃ o : Str, (if decide (0 < (m : Int)) = true then some (d ++ ([46] ++ f.drop 1)) else some d) = some o ∧ o.length ≤ 40 := by
    by_cases h : 0 < (m : Int)
    · exact ⟨_, if_pos (decide_eq_true h), by simp; omega⟩
    · exact ⟨_, if_neg (by simpa using h), by omega⟩
  have hc1 : cat [46] (f.drop 1) = some ([46] ++ f.drop 1) := cat_of (by simp; omega)
  have hc2 : cat d ([46] ++ f.drop 1) = some (d ++ ([46] ++ f.drop 1)) := cat_of (by simp; omega)
  have hc3 : cat [45] o = some ([45] ++ o) := cat_of (by simp; omega)
  have hc4 : cat [] o = some ([] ++ o) := cat_of (by simp; omega)
  refine ⟨if n < 0 ∧ (0 < W ∨ 0 < Q) then [45] ++ o else o, ?_, ?_, ?_⟩
  · unfold panel_digits
    rw [ea, eq1, eq2, hl1]
    simp only [Option.bind_some, t1_mk, e1, e2, e3, e4, e7, eq3, hWQ, t2_mk, hd, e8, hf, slc1 hfl1, hc1, hc2, ho]
    by_cases h : n < 0 ∧ (0 < W ∨ 0 < Q)
    · have h' : (decide (n < 0) && (decide (0 < W) || decide (0 < Q))) = true := by simpa using h
      rw [if_pos h', if_pos h, hc3]; rfl
    · have h' : (decide (n < 0) && (decide (0 < W) || decide (0 < Q))) = false := by
        rw [Bool.eq_false_iff]; intro e; exact h (by simpa using e)
      rw [if_neg (by rw [h']; simp), if_neg h]
  · have hsz : (if decide (n < 0) = true then some (i64 (-n), ([45] : Str)) else some (n, [])) = some (A, if n < 0 then [45] else []) := by
      rw [en, ← hA]
      by_cases h : n < 0 <;> simp [h]
    unfold ref8_digits
    rw [hsz]
    simp only [Option.bind_some, t2_mk, hl2, t1_mk, eq1, eq2, e5, e6, e2, e3, e4, eq3, e7, hWQ, hd, e8, hf, slc1 hfl1, hc1, hc2, ho]
    by_cases h0 : W = 0 ∧ Q = 0
    · have h' : (decide (W = 0) && decide (Q = 0)) = true := by simpa using h0
      rw [if_pos h']
      simp only [Option.bind_some, t1_mk, hc4]
      rw [if_neg (by omega)]; rfl
    · have h' : (decide (W = 0) && decide (Q = 0)) = false := by
        rw [Bool.eq_false_iff]; intro e; exact h0 (by simpa using e)
      rw [h']
      by_cases hn : n < 0
      · have : n < 0 ∧ (0 < W ∨ 0 < Q) := ⟨hn, by omega⟩
        simp only [hn, if_true, Bool.false_eq_true, if_false, Option.bind_some, t1_mk, hc3]
        rw [if_pos ⟨trivial, this.2⟩]
      · simp only [hn, if_false, Bool.false_eq_true, Option.bind_some, t1_mk, hc4]
        simp
  · split
    · simp; omega
    · omega
end Go.Vx
