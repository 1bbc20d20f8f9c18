/- A text of the proof: a verified executor of the program form, or the contracts of the functions that the law reaches. -/
import Derived.Test.YtecdkapjjhkanaaPA
import Derived.Test.YtecdkapjjhkanaaShT
import Derived.Test.YtecdkapjjhkanaaPE
set_option linter.all false
namespace Go.Vx
open Go Go.RowKit
/-! ## Division of two digits by one of two (Knuth's D), in plain numbers -/
theorem kn_ge {y1 y0 u2 u1 q r : Nat} (hu : u2 < y1 * 4294967296 + y0) (hu1 : u1 < 4294967296) (hq : q * y1 + r = u2) (hc : 4294967296 ≤ q ∨ 4294967296 * r + u1 < q * y0) :
    (u2 * 4294967296 + u1) / (y1 * 4294967296 + y0) < q := by
  have hy : 0 < y1 * 4294967296 + y0 := by omega
  rw [Nat.div_lt_iff_lt_mul hy]
  rcases hc with h | h
  · have h1 : 4294967296 * (y1 * 4294967296 + y0) ≤ q * (y1 * 4294967296 + y0) := Nat.mul_le_mul_right _ h
    omega
  · have h1 : q * (y1 * 4294967296 + y0) = q * y1 * 4294967296 + q * y0 := by rw [Nat.mul_add, Nat.mul_assoc]
    omega
theorem kn_le {y1 y0 u2 u1 q r : Nat} (hy : 0 < y1 * 4294967296 + y0) (hq : q * y1 + r = u2) (hc : q * y0 ≤ 4294967296 * r + u1) :
    q ≤ (u2 * 4294967296 + u1) / (y1 * 4294967296 + y0) := by
  rw [Nat.le_div_iff_mul_le hy]
  have h1 : q * (y1 * 4294967296 + y0) = q * y1 * 4294967296 + q * y0 := by rw [Nat.mul_add, Nat.mul_assoc]
  omega
theorem kn_small {y1 y0 u2 q r : Nat} (hu : u2 < y1 * 4294967296 + y0) (hy0 : y0 < 4294967296) (hy1 : 2147483648 ≤ y1) (hq : q * y1 + r = u2) : q ≤ 4294967297 := by
  rcases Nat.lt_or_ge 4294967297 q with h | h
  · have h1 : 4294967298 * y1 ≤ q * y1 := Nat.mul_le_mul_right _ h
    omega
  · exact h
theorem kn_brk {y1 y0 u2 u1 q r : Nat} (hu : u2 < y1 * 4294967296 + y0) (hy0 : y0 < 4294967296) (hy1 : 2147483648 ≤ y1) (hq : (q + 1) * y1 + r = u2) (hr : 4294967296 ≤ r + y1) :
    q * y0 ≤ 4294967296 * (r + y1) + u1 := by
  have h0 := kn_small hu hy0 hy1 hq
  have h1 : q * y0 ≤ 4294967296 * y0 := Nat.mul_le_mul_right _ (by omega)
  omega
theorem kn_all {y n1 n0 : Nat} (hy : 0 < y) : (n1 * 4294967296 + n0) / y = n1 / y * 4294967296 + (n1 % y * 4294967296 + n0) / y ∧ (n1 * 4294967296 + n0) % y = (n1 % y * 4294967296 + n0) % y := by
  have e : n1 * 4294967296 + n0 = y * (n1 / y * 4294967296) + (n1 % y * 4294967296 + n0) := by
    have h := Nat.div_add_mod n1 y
    have : y * (n1 / y * 4294967296) = y * (n1 / y) * 4294967296 := by rw [Nat.mul_assoc]
    omega
  constructor
  · conv => lhs; rw [e]
    rw [Nat.mul_add_div hy]
  · conv => lhs; rw [e]
    rw [Nat.mul_add_mod]
end Go.Vx

namespace Go.Vx
open Go Go.RowKit
/-! ## The operations of 64 bits on plain numbers -/
theorem u64E (z : Int) : u64 z = z % 18446744073709551616 := by
  show IntKind.u64.wrap z = _
  simp [IntKind.wrap, IntKind.signed, IntKind.bits]
theorem u64N {n : Nat} (h : n < 18446744073709551616) : u64 (n : Int) = (n : Int) := by rw [u64E]; omega
theorem shrN {n k : Nat} (hk : k ≤ 64) : shr .u64 (n : Int) (k : Int) = some ((n / 2 ^ k : Nat) : Int) := by
  unfold shr
  rw [if_neg (by omega)]
  have : min (k : Int).toNat IntKind.u64.bits = k := by simp [IntKind.bits]; omega
  rw [this]
  congr 1
  rw [Int.fdiv_eq_ediv_of_nonneg _ (Int.le_of_lt (Int.pow_pos (by decide)))]
  rfl
theorem shlM {n k : Nat} (hk : k ≤ 64) : shl .u64 (n : Int) (k : Int) = some (((n * 2 ^ k) % 18446744073709551616 : Nat) : Int) := by
  unfold shl
  rw [if_neg (by omega)]
  have : min (k : Int).toNat IntKind.u64.bits = k := by simp [IntKind.bits]; omega
  rw [this]
  congr 1
theorem shlN {n k : Nat} (hk : k ≤ 64) (h : n * 2 ^ k < 18446744073709551616) : shl .u64 (n : Int) (k : Int) = some ((n * 2 ^ k : Nat) : Int) := by
  rw [shlM hk, Nat.mod_eq_of_lt h]
theorem bandN (n : Nat) : band .u64 (n : Int) 4294967295 = ((n % 4294967296 : Nat) : Int) := by
  unfold band
  have e : (BitVec.ofInt IntKind.u64.bits (n : Int) &&& BitVec.ofInt IntKind.u64.bits 4294967295).toNat = n % 4294967296 := by
    have h1 : BitVec.ofInt IntKind.u64.bits (n : Int) = BitVec.ofNat 64 n := BitVec.ofInt_natCast ..
    have h2 : BitVec.ofInt IntKind.u64.bits 4294967295 = BitVec.ofNat 64 4294967295 := rfl
    rw [h1, h2]
    show (BitVec.ofNat 64 n &&& BitVec.ofNat 64 4294967295).toNat = _
    rw [BitVec.toNat_and, BitVec.toNat_ofNat, BitVec.toNat_ofNat]
    have h3 : 4294967295 % 2 ^ 64 = 2 ^ 32 - 1 := by decide
    rw [h3, Nat.and_two_pow_sub_one_eq_mod]
    omega
  rw [e]
  exact u64N (by omega)
theorem borN {a b s : Nat} (hb : b < 2 ^ s) (h : a * 2 ^ s + b < 18446744073709551616) : bor .u64 ((a * 2 ^ s : Nat) : Int) (b : Int) = ((a * 2 ^ s + b : Nat) : Int) := by
  unfold bor
  have e : (BitVec.ofInt IntKind.u64.bits ((a * 2 ^ s : Nat) : Int) ||| BitVec.ofInt IntKind.u64.bits (b : Int)).toNat = a * 2 ^ s + b := by
    have h1 : ∀ n : Nat, BitVec.ofInt IntKind.u64.bits (n : Int) = BitVec.ofNat 64 n := fun n => BitVec.ofInt_natCast ..
    rw [h1, h1]
    show (BitVec.ofNat 64 (a * 2 ^ s) ||| BitVec.ofNat 64 b).toNat = _
    rw [BitVec.toNat_or, BitVec.toNat_ofNat, BitVec.toNat_ofNat, Nat.mod_eq_of_lt (by omega), Nat.mod_eq_of_lt (by omega), ← Nat.shiftLeft_eq, ← Nat.shiftLeft_add_eq_or_of_lt hb]
  rw [e]
  exact u64N h
theorem quoN {a b : Nat} (ha : a < 18446744073709551616) (hb : 0 < b) : quo .u64 (a : Int) (b : Int) = some ((a / b : Nat) : Int) := by
  unfold quo
  rw [if_neg (by omega)]
  have : (a : Int).tdiv b = ((a / b : Nat) : Int) := by rw [Int.tdiv_eq_ediv_of_nonneg (by omega)]; rfl
  rw [this]
  congr 1
  exact u64N (Nat.lt_of_le_of_lt (Nat.div_le_self _ _) ha)
theorem remN {a b : Nat} (hb : 0 < b) : rem (a : Int) (b : Int) = some ((a % b : Nat) : Int) := by
  unfold rem
  rw [if_neg (by omega)]
  rw [Int.tmod_eq_emod_of_nonneg (by omega)]; rfl
theorem tab8 : ∀ k : Fin 256, 1 ≤ k.val → ∃ b : Fin 9, 1 ≤ b.val ∧ sidx [0, 1, 2, 2, 3, 3, 3, 3, 4, 4, 4, 4, 4, 4, 4, 4, 5, 5, 5, 5, 5, 5, 5, 5, 5, 5, 5, 5, 5, 5, 5, 5, 6, 6, 6, 6, 6, 6, 6, 6, 6, 6, 6, 6, 6, 6, 6, 6, 6, 6, 6, 6, 6, 6, 6, 6, 6, 6, 6, 6, 6, 6, 6, 6, 7, 7, 7, 7, 7, 7, 7, 7, 7, 7, 7, 7, 7, 7, 7, 7, 7, 7, 7, 7, 7, 7, 7, 7, 7, 7, 7, 7, 7, 7, 7, 7, 7, 7, 7, 7, 7, 7, 7, 7, 7, 7, 7, 7, 7, 7, 7, 7, 7, 7, 7, 7, 7, 7, 7, 7, 7, 7, 7, 7, 7, 7, 7, 7, 8, 8, 8, 8, 8, 8, 8, 8, 8, 8, 8, 8, 8, 8, 8, 8, 8, 8, 8, 8, 8, 8, 8, 8, 8, 8, 8, 8, 8, 8, 8, 8, 8, 8, 8, 8, 8, 8, 8, 8, 8, 8, 8, 8, 8, 8, 8, 8, 8, 8, 8, 8, 8, 8, 8, 8, 8, 8, 8, 8, 8, 8, 8, 8, 8, 8, 8, 8, 8, 8, 8, 8, 8, 8, 8, 8, 8, 8, 8, 8, 8, 8, 8, 8, 8, 8, 8, 8, 8, 8, 8, 8, 8, 8, 8, 8, 8, 8, 8, 8, 8, 8, 8, 8, 8, 8, 8, 8, 8, 8, 8, 8, 8, 8, 8, 8, 8, 8, 8, 8, 8, 8, 8, 8, 8, 8, 8, 8] ((k.val : Nat) : Int) = some ((b.val : Nat) : Int) ∧ 2 ^ (b.val - 1) ≤ k.val ∧ k.val < 2 ^ b.val := by
  intro k hk
  refine ⟨⟨Nat.log2 k.val + 1, by have := Nat.log2_lt (n := k.val) (k := 8) (by omega); omega⟩, by simp, ?_, ?_, ?_⟩
  · have key : ∀ k : Fin 256, 1 ≤ k.val → sidx [0, 1, 2, 2, 3, 3, 3, 3, 4, 4, 4, 4, 4, 4, 4, 4, 5, 5, 5, 5, 5, 5, 5, 5, 5, 5, 5, 5, 5, 5, 5, 5, 6, 6, 6, 6, 6, 6, 6, 6, 6, 6, 6, 6, 6, 6, 6, 6, 6, 6, 6, 6, 6, 6, 6, 6, 6, 6, 6, 6, 6, 6, 6, 6, 7, 7, 7, 7, 7, 7, 7, 7, 7, 7, 7, 7, 7, 7, 7, 7, 7, 7, 7, 7, 7, 7, 7, 7, 7, 7, 7, 7, 7, 7, 7, 7, 7, 7, 7, 7, 7, 7, 7, 7, 7, 7, 7, 7, 7, 7, 7, 7, 7, 7, 7, 7, 7, 7, 7, 7, 7, 7, 7, 7, 7, 7, 7, 7, 8, 8, 8, 8, 8, 8, 8, 8, 8, 8, 8, 8, 8, 8, 8, 8, 8, 8, 8, 8, 8, 8, 8, 8, 8, 8, 8, 8, 8, 8, 8, 8, 8, 8, 8, 8, 8, 8, 8, 8, 8, 8, 8, 8, 8, 8, 8, 8, 8, 8, 8, 8, 8, 8, 8, 8, 8, 8, 8, 8, 8, 8, 8, 8, 8, 8, 8, 8, 8, 8, 8, 8, 8, 8, 8, 8, 8, 8, 8, 8, 8, 8, 8, 8, 8, 8, 8, 8, 8, 8, 8, 8, 8, 8, 8, 8, 8, 8, 8, 8, 8, 8, 8, 8, 8, 8, 8, 8, 8, 8, 8, 8, 8, 8, 8, 8, 8, 8, 8, 8, 8, 8, 8, 8, 8, 8, 8, 8] ((k.val : Nat) : Int) = some (((Nat.log2 k.val + 1 : Nat)) : Int) := by decide +kernel
    exact key k hk
  · simp only [Nat.add_sub_cancel]; exact Nat.log2_self_le (by omega)
  · exact Nat.lt_log2_self
set_option maxRecDepth 4000 in
theorem len64 {x : Nat} (h0 : 1 ≤ x) (h1 : x < 18446744073709551616) : ∃ n : Nat, 1 ≤ n ∧ n ≤ 64 ∧ bits_Len64 (x : Int) = some (n : Int) ∧ 2 ^ (n - 1) ≤ x ∧ x < 2 ^ n := by
  unfold bits_Len64
  obtain ⟨x2, n2, e2, b2, c2, d2, l2, r2⟩ : ∃ x2 n2 : Nat, (if (decide (4294967296 ≤ (x : Int))) = true then (shr .u64 (x : Int) 32).bind fun q => some (q, (32 : Int)) else some ((x : Int), 0)) = some ((x2 : Int), (n2 : Int)) ∧ 1 ≤ x2 ∧ x2 < 4294967296 ∧ n2 + 32 ≤ 64 ∧ x2 * 2 ^ n2 ≤ x ∧ x < (x2 + 1) * 2 ^ n2 := by
    by_cases h : 4294967296 ≤ x
    · refine ⟨x / 2 ^ 32, 32, ?_, by omega, by omega, by omega, by omega, by omega⟩
      rw [if_pos (by simp; omega), show (32 : Int) = ((32 : Nat) : Int) from rfl, shrN (by omega)]; rfl
    · exact ⟨x, 0, by rw [if_neg (by simp; omega)]; rfl, h0, by omega, by omega, by omega, by omega⟩
  rw [e2]
  simp only [Option.bind_some, t2_mk]
  obtain ⟨x3, n3, e3, b3, c3, d3, l3, r3⟩ : ∃ x3 n3 : Nat, (if (decide (65536 ≤ (x2 : Int))) = true then (shr .u64 (x2 : Int) 16).bind fun q => some (q, i64 ((n2 : Int) + 16)) else some ((x2 : Int), (n2 : Int))) = some ((x3 : Int), (n3 : Int)) ∧ 1 ≤ x3 ∧ x3 < 65536 ∧ n3 + 16 ≤ 64 ∧ x3 * 2 ^ n3 ≤ x ∧ x < (x3 + 1) * 2 ^ n3 := by
    by_cases h : 65536 ≤ x2
    · have e : 2 ^ (n2 + 16) = 65536 * 2 ^ n2 := by rw [Nat.pow_add]; omega
      refine ⟨x2 / 2 ^ 16, n2 + 16, ?_, by omega, by omega, by omega, ?_, ?_⟩
      · rw [if_pos (by simp; omega), show (16 : Int) = ((16 : Nat) : Int) from rfl, shrN (by omega)]
        have : i64 ((n2 : Int) + (16 : Nat)) = ((n2 + 16 : Nat) : Int) := by show IntKind.i64.wrap _ = _; rw [i64_id (by omega) (by omega)]; push_cast; rfl
        rw [this]; rfl
      · rw [e, ← Nat.mul_assoc]; exact Nat.le_trans (Nat.mul_le_mul_right _ (by omega)) l2
      · rw [e, ← Nat.mul_assoc]; exact Nat.lt_of_lt_of_le r2 (Nat.mul_le_mul_right _ (by omega))
    · exact ⟨x2, n2, by rw [if_neg (by simp; omega)], b2, by omega, by omega, l2, r2⟩
  rw [e3]
  simp only [Option.bind_some, t2_mk]
  obtain ⟨x4, n4, e4, b4, c4, d4, l4, r4⟩ : ∃ x4 n4 : Nat, (if (decide (256 ≤ (x3 : Int))) = true then (shr .u64 (x3 : Int) 8).bind fun q => some (q, i64 ((n3 : Int) + 8)) else some ((x3 : Int), (n3 : Int))) = some ((x4 : Int), (n4 : Int)) ∧ 1 ≤ x4 ∧ x4 < 256 ∧ n4 + 8 ≤ 64 ∧ x4 * 2 ^ n4 ≤ x ∧ x < (x4 + 1) * 2 ^ n4 := by
    by_cases h : 256 ≤ x3
    · have e : 2 ^ (n3 + 8) = 256 * 2 ^ n3 := by rw [Nat.pow_add]; omega
      refine ⟨x3 / 2 ^ 8, n3 + 8, ?_, by omega, by omega, by omega, ?_, ?_⟩
      · rw [if_pos (by simp; omega), show (8 : Int) = ((8 : Nat) : Int) from rfl, shrN (by omega)]
        have : i64 ((n3 : Int) + (8 : Nat)) = ((n3 + 8 : Nat) : Int) := by show IntKind.i64.wrap _ = _; rw [i64_id (by omega) (by omega)]; push_cast; rfl
        rw [this]; rfl
      · rw [e, ← Nat.mul_assoc]; exact Nat.le_trans (Nat.mul_le_mul_right _ (by omega)) l3
      · rw [e, ← Nat.mul_assoc]; exact Nat.lt_of_lt_of_le r3 (Nat.mul_le_mul_right _ (by omega))
    · exact ⟨x3, n3, by rw [if_neg (by simp; omega)], b3, by omega, by omega, l3, r3⟩
  rw [e4]
  simp only [Option.bind_some, t2_mk]
  obtain ⟨b, hb1, hb2, hb3, hb4⟩ := tab8 ⟨x4, c4⟩ b4
  have e8 : u8 (x4 : Int) = (x4 : Int) := by
    show IntKind.u8.wrap _ = _
    simp [IntKind.wrap, IntKind.signed, IntKind.bits]; omega
  have ei : i64 ((b.val : Nat) : Int) = ((b.val : Nat) : Int) := by show IntKind.i64.wrap _ = _; rw [i64_id (by omega) (by omega)]
  have ej : i64 ((n4 : Int) + ((b.val : Nat) : Int)) = ((n4 + b.val : Nat) : Int) := by show IntKind.i64.wrap _ = _; rw [i64_id (by omega) (by omega)]; push_cast; rfl
  refine ⟨n4 + b.val, by omega, by omega, ?_, ?_, ?_⟩
  · rw [e8]
    simp only [hb2, Option.bind_some, ei, ej]
  · have : n4 + b.val - 1 = (b.val - 1) + n4 := by omega
    rw [this, Nat.pow_add]
    exact Nat.le_trans (Nat.mul_le_mul_right _ hb3) l4
  · rw [Nat.add_comm, Nat.pow_add]
    exact Nat.lt_of_lt_of_le r4 (Nat.mul_le_mul_right _ hb4)
theorem lz64 {y : Nat} (h0 : 1 ≤ y) (h1 : y < 18446744073709551616) : ∃ s : Nat, s ≤ 63 ∧ bits_LeadingZeros64 (y : Int) = some (s : Int) ∧ 9223372036854775808 ≤ y * 2 ^ s ∧ y * 2 ^ s < 18446744073709551616 := by
  obtain ⟨n, a1, a2, a3, a4, a5⟩ := len64 h0 h1
  refine ⟨64 - n, by omega, ?_, ?_, ?_⟩
  · unfold bits_LeadingZeros64
    have : i64 (64 - (n : Int)) = ((64 - n : Nat) : Int) := by show IntKind.i64.wrap _ = _; rw [i64_id (by omega) (by omega)]; omega
    simp only [a3, Option.bind_some, this]
  · have e : 9223372036854775808 = 2 ^ (n - 1) * 2 ^ (64 - n) := by rw [← Nat.pow_add, show n - 1 + (64 - n) = 63 by omega]
    rw [e]; exact Nat.mul_le_mul_right _ a4
  · have e : 18446744073709551616 = 2 ^ n * 2 ^ (64 - n) := by rw [← Nat.pow_add, show n + (64 - n) = 64 by omega]
    rw [e]; exact Nat.mul_lt_mul_of_pos_right a5 (Nat.pow_pos (by decide))
end Go.Vx

namespace Go.Vx
open Go Go.RowKit
/-! ## The division of 128 bits by 64 -/
theorem kn_loop {σ : Type} {body : σ → Option (σ ⊕ Int)} (enc : Nat → Nat → σ) {y1 y0 u2 u1 : Nat} (hy0 : y0 < 4294967296) (hy1 : 2147483648 ≤ y1) (hy1' : y1 < 4294967296) (hu : u2 < y1 * 4294967296 + y0) (hu1 : u1 < 4294967296)
    (hstep : ∀ q r : Nat, q ≤ 4294967297 → r < 4294967296 → body (enc q r) = if 4294967296 ≤ q ∨ 4294967296 * r + u1 < q * y0 then (if 4294967296 ≤ r + y1 then some (.inr ((q - 1 : Nat) : Int)) else some (.inl (enc (q - 1) (r + y1)))) else some (.inr (q : Int))) :
    loop body (enc (u2 / y1) (u2 % y1)) = some (((u2 * 4294967296 + u1) / (y1 * 4294967296 + y0) : Nat) : Int) := by
  have hy : 0 < y1 * 4294967296 + y0 := by omega
  have key : ∀ Q : Nat, Q = (u2 * 4294967296 + u1) / (y1 * 4294967296 + y0) → ∀ n q r : Nat, q < n → q * y1 + r = u2 → r < 4294967296 → Q ≤ q → loop body (enc q r) = some ((Q : Nat) : Int) := by
    intro Q hQ n
    induction n with
    | zero => intro q r h; omega
    | succ n ih =>
      intro q r hn hq hr hle
      have hs := kn_small hu hy0 hy1 hq
      rw [loop_eq, hstep q r hs hr]
      by_cases hc : 4294967296 ≤ q ∨ 4294967296 * r + u1 < q * y0
      · rw [if_pos hc]
        have hlt := kn_ge hu hu1 hq hc
        rw [← hQ] at hlt
        have hq1 : (q - 1 + 1) * y1 + r = u2 := by rw [show q - 1 + 1 = q by omega]; exact hq
        have hq2 : (q - 1) * y1 + (r + y1) = u2 := by rw [Nat.add_mul] at hq1; omega
        by_cases hb : 4294967296 ≤ r + y1
        · rw [if_pos hb]
          have := kn_le (u1 := u1) hy hq2 (kn_brk (u1 := u1) hu hy0 hy1 hq1 hb)
          rw [← hQ] at this
          have e : q - 1 = Q := by omega
          rw [e]; rfl
        · rw [if_neg hb]
          exact ih (q - 1) (r + y1) (by omega) hq2 (by omega) (by omega)
      · rw [if_neg hc]
        have := kn_le (u1 := u1) hy hq (by omega)
        rw [← hQ] at this
        have e : q = Q := by omega
        rw [e]; rfl
  have hm : u2 / y1 * y1 + u2 % y1 = u2 := by have := Nat.div_add_mod u2 y1; rw [Nat.mul_comm] at this; exact this
  have hr : u2 % y1 < 4294967296 := Nat.lt_of_lt_of_le (Nat.mod_lt _ (by omega)) (by omega)
  refine key _ rfl _ _ _ (Nat.lt_succ_self _) hm hr ?_
  rw [Nat.le_div_iff_mul_le (by omega)]
  have h1 : (u2 * 4294967296 + u1) / (y1 * 4294967296 + y0) * (y1 * 4294967296 + y0) ≤ u2 * 4294967296 + u1 := Nat.div_mul_le_self _ _
  generalize (u2 * 4294967296 + u1) / (y1 * 4294967296 + y0) = Q at h1
  rw [Nat.mul_add, ← Nat.mul_assoc] at h1
  omega
theorem mul_le32 {a b : Nat} (ha : a ≤ 4294967295) (hb : b ≤ 4294967295) : a * b ≤ 18446744065119617025 := by
  have := Nat.mul_le_mul ha hb
  omega
theorem kn_cond {q r u1 y0 : Nat} (hq : q ≤ 4294967297) (hr : r < 4294967296) (hu1 : u1 < 4294967296) (hy0 : y0 < 4294967296) :
    ((decide (4294967296 ≤ (q : Int))) || (decide ((u64 ((u64 (4294967296 * (r : Int))) + (u1 : Int))) < (u64 ((q : Int) * (y0 : Int)))))) = decide (4294967296 ≤ q ∨ 4294967296 * r + u1 < q * y0) := by
  by_cases h : 4294967296 ≤ q
  · have : (4294967296 : Int) ≤ (q : Int) := by omega
    simp [h, this]
  · have h' : ¬ (4294967296 : Int) ≤ (q : Int) := by omega
    have hm := mul_le32 (a := q) (b := y0) (by omega) (by omega)
    have e1 : u64 (4294967296 * (r : Int)) = ((4294967296 * r : Nat) : Int) := by
      rw [show (4294967296 * (r : Int)) = ((4294967296 * r : Nat) : Int) by omega]; exact u64N (by omega)
    have e2 : u64 (((4294967296 * r : Nat) : Int) + (u1 : Int)) = ((4294967296 * r + u1 : Nat) : Int) := by
      rw [show ((4294967296 * r : Nat) : Int) + (u1 : Int) = ((4294967296 * r + u1 : Nat) : Int) by omega]; exact u64N (by omega)
    have e3 : u64 ((q : Int) * (y0 : Int)) = ((q * y0 : Nat) : Int) := by
      rw [← Int.natCast_mul]; exact u64N (by omega)
    rw [e1, e2, e3]
    simp only [h', h, decide_false, Bool.false_or, false_or]
    rw [Bool.eq_iff_iff]; simp only [decide_eq_true_iff]; omega
theorem div64_L1 {y1 y0 u2 u1 : Nat} (hy0 : y0 < 4294967296) (hy1 : 2147483648 ≤ y1) (hy1' : y1 < 4294967296) (hu : u2 < y1 * 4294967296 + y0) (hu1 : u1 < 4294967296) :
    loop (t2 (bits_Div64_L1 ((y1 * 4294967296 + y0 : Nat) : Int) (y1 : Int) (u1 : Int))) (((u2 / y1 : Nat) : Int), ((u2 % y1 : Nat) : Int)) = some (((u2 * 4294967296 + u1) / (y1 * 4294967296 + y0) : Nat) : Int) := by
  refine kn_loop (fun q r => (((q : Nat) : Int), ((r : Nat) : Int))) hy0 hy1 hy1' hu hu1 fun q r hq hr => ?_
  have eb : band .u64 ((y1 * 4294967296 + y0 : Nat) : Int) 4294967295 = (y0 : Int) := by rw [bandN]; congr 1; omega
  simp only [t2_mk, bits_Div64_L1, eb]
  rw [kn_cond hq hr hu1 hy0]
  have e4 : u64 ((r : Int) + (y1 : Int)) = ((r + y1 : Nat) : Int) := by
    rw [← Int.natCast_add]; exact u64N (by omega)
  by_cases hc : 4294967296 ≤ q ∨ 4294967296 * r + u1 < q * y0
  · have hq0 : 1 ≤ q := by
      rcases hc with h | h
      · omega
      · rcases Nat.eq_zero_or_pos q with rfl | h0
        · simp at h
        · exact h0
    have e5 : u64 ((q : Int) - 1) = ((q - 1 : Nat) : Int) := by
      rw [show (q : Int) - 1 = ((q - 1 : Nat) : Int) by omega]; exact u64N (by omega)
    rw [if_pos hc, e4, e5, if_pos (decide_eq_true hc)]
    by_cases hb : 4294967296 ≤ r + y1
    · have : (4294967296 : Int) ≤ ((r + y1 : Nat) : Int) := by omega
      rw [if_pos hb, if_pos (decide_eq_true this)]
    · have : ¬ (4294967296 : Int) ≤ ((r + y1 : Nat) : Int) := by omega
      rw [if_neg hb, if_neg (by rw [decide_eq_false this]; simp)]
  · rw [if_neg hc, if_neg (by rw [decide_eq_false hc]; simp)]
theorem div64_L2 {y1 y0 u2 u1 q7 : Nat} (hy0 : y0 < 4294967296) (hy1 : 2147483648 ≤ y1) (hy1' : y1 < 4294967296) (hu : u2 < y1 * 4294967296 + y0) (hu1 : u1 < 4294967296) (hq7 : q7 % 4294967296 = u1) :
    loop (t2 (bits_Div64_L2 ((y1 * 4294967296 + y0 : Nat) : Int) (y1 : Int) (q7 : Int))) (((u2 % y1 : Nat) : Int), ((u2 / y1 : Nat) : Int)) = some (((u2 * 4294967296 + u1) / (y1 * 4294967296 + y0) : Nat) : Int) := by
  refine kn_loop (fun q r => (((r : Nat) : Int), ((q : Nat) : Int))) hy0 hy1 hy1' hu hu1 fun q r hq hr => ?_
  have eb : band .u64 ((y1 * 4294967296 + y0 : Nat) : Int) 4294967295 = (y0 : Int) := by rw [bandN]; congr 1; omega
  have e7 : band .u64 (q7 : Int) 4294967295 = (u1 : Int) := by rw [bandN, hq7]
  simp only [t2_mk, bits_Div64_L2, eb, e7]
  rw [kn_cond hq hr hu1 hy0]
  have e4 : u64 ((r : Int) + (y1 : Int)) = ((r + y1 : Nat) : Int) := by
    rw [← Int.natCast_add]; exact u64N (by omega)
  by_cases hc : 4294967296 ≤ q ∨ 4294967296 * r + u1 < q * y0
  · have hq0 : 1 ≤ q := by
      rcases hc with h | h
      · omega
      · rcases Nat.eq_zero_or_pos q with rfl | h0
        · simp at h
        · exact h0
    have e5 : u64 ((q : Int) - 1) = ((q - 1 : Nat) : Int) := by
      rw [show (q : Int) - 1 = ((q - 1 : Nat) : Int) by omega]; exact u64N (by omega)
    rw [if_pos hc, e4, e5, if_pos (decide_eq_true hc)]
    by_cases hb : 4294967296 ≤ r + y1
    · have : (4294967296 : Int) ≤ ((r + y1 : Nat) : Int) := by omega
      rw [if_pos hb, if_pos (decide_eq_true this)]
    · have : ¬ (4294967296 : Int) ≤ ((r + y1 : Nat) : Int) := by omega
      rw [if_neg hb, if_neg (by rw [decide_eq_false this]; simp)]
  · rw [if_neg hc, if_neg (by rw [decide_eq_false hc]; simp)]
/-- what is left behind a digit -/
theorem kn_rest {u u1 Y : Nat} (hY : 0 < Y) (hYM : Y < 18446744073709551616) (hu : u < 18446744073709551616) (hu1 : u1 < 4294967296) :
    u64 (u64 (u64 ((u : Int) * 4294967296) + (u1 : Int)) - u64 ((((u * 4294967296 + u1) / Y : Nat) : Int) * (Y : Int))) = (((u * 4294967296 + u1) % Y : Nat) : Int) := by
  have h1 := Nat.div_add_mod (u * 4294967296 + u1) Y
  have h2 := Nat.mod_lt (u * 4294967296 + u1) hY
  have e : (((u * 4294967296 + u1) / Y : Nat) : Int) * (Y : Int) = ((Y * ((u * 4294967296 + u1) / Y) : Nat) : Int) := by rw [Int.natCast_mul, Int.mul_comm]
  rw [e]
  generalize Y * ((u * 4294967296 + u1) / Y) = C at h1
  generalize (u * 4294967296 + u1) % Y = R at h1 h2
  simp only [u64E]
  omega
theorem kn_sub {u y1 : Nat} (hu : u < 18446744073709551616) : u64 ((u : Int) - u64 (((u / y1 : Nat) : Int) * (y1 : Int))) = ((u % y1 : Nat) : Int) := by
  have h1 := Nat.div_add_mod u y1
  have h3 : u % y1 ≤ u := Nat.mod_le _ _
  have e : ((u / y1 : Nat) : Int) * (y1 : Int) = ((y1 * (u / y1) : Nat) : Int) := by rw [Int.natCast_mul, Int.mul_comm]
  rw [e]
  generalize y1 * (u / y1) = C at h1
  generalize u % y1 = R at h1 h3
  simp only [u64E]
  omega
/-- the scaled numbers -/
theorem kn_scale {hi lo y s : Nat} (hs : s ≤ 63) (hh : hi < y) (hl : lo < 18446744073709551616) : hi * 2 ^ s + lo / 2 ^ (64 - s) < y * 2 ^ s ∧ lo / 2 ^ (64 - s) < 2 ^ s ∧
    (hi * 18446744073709551616 + lo) * 2 ^ s = (hi * 2 ^ s + lo / 2 ^ (64 - s)) * 18446744073709551616 + lo * 2 ^ s % 18446744073709551616 := by
  have hps : 0 < 2 ^ s := Nat.pow_pos (by decide)
  have hp : 2 ^ (64 - s) * 2 ^ s = 18446744073709551616 := by rw [← Nat.pow_add, show 64 - s + s = 64 by omega]
  have hlo : lo / 2 ^ (64 - s) < 2 ^ s := by
    rw [Nat.div_lt_iff_lt_mul (Nat.pow_pos (by decide)), Nat.mul_comm, hp]; exact hl
  have h2 : lo * 2 ^ s / 18446744073709551616 = lo / 2 ^ (64 - s) := by
    rw [← hp]
    exact Nat.mul_div_mul_right _ _ hps
  have h1 := Nat.div_add_mod (lo * 2 ^ s) 18446744073709551616
  rw [h2] at h1
  have h3 : (hi + 1) * 2 ^ s ≤ y * 2 ^ s := Nat.mul_le_mul_right (2 ^ s) hh
  rw [Nat.add_mul, Nat.one_mul] at h3
  refine ⟨by omega, hlo, ?_⟩
  rw [Nat.add_mul, Nat.mul_right_comm]
  generalize lo / 2 ^ (64 - s) = d at h1
  generalize lo * 2 ^ s % 18446744073709551616 = m at h1
  generalize lo * 2 ^ s = l at h1
  generalize hi * 2 ^ s = k
  omega
theorem kn_join (u v : Nat) : (u * 4294967296 + v / 4294967296) * 4294967296 + v % 4294967296 = u * 18446744073709551616 + v := by omega
theorem kn_q {u u1 Y : Nat} (hY : u < Y) (h1 : u1 < 4294967296) : (u * 4294967296 + u1) / Y < 4294967296 := by
  rw [Nat.div_lt_iff_lt_mul (by omega)]; omega
theorem kn_cat {Q P : Nat} (hQ : Q < 4294967296) (hP : P < 4294967296) : u64 (u64 ((Q : Int) * 4294967296) + (P : Int)) = ((Q * 4294967296 + P : Nat) : Int) := by
  simp only [u64E]; omega
theorem div64_tail {u v Y : Nat} (hb1 : 9223372036854775808 ≤ Y) (hb2 : Y < 18446744073709551616) (hu : u < Y) (hv : v < 18446744073709551616) : ∃ q1 R q0 : Nat,
    loop (t2 (bits_Div64_L1 (Y : Int) ((Y / 4294967296 : Nat) : Int) ((v / 4294967296 : Nat) : Int))) (((u / (Y / 4294967296) : Nat) : Int), ((u % (Y / 4294967296) : Nat) : Int)) = some (q1 : Int) ∧
    u64 (u64 (u64 ((u : Int) * 4294967296) + ((v / 4294967296 : Nat) : Int)) - u64 ((q1 : Int) * (Y : Int))) = (R : Int) ∧ R < 18446744073709551616 ∧
    loop (t2 (bits_Div64_L2 (Y : Int) ((Y / 4294967296 : Nat) : Int) (v : Int))) (((R % (Y / 4294967296) : Nat) : Int), ((R / (Y / 4294967296) : Nat) : Int)) = some (q0 : Int) ∧
    u64 (u64 (u64 ((R : Int) * 4294967296) + ((v % 4294967296 : Nat) : Int)) - u64 ((q0 : Int) * (Y : Int))) = (((u * 18446744073709551616 + v) % Y : Nat) : Int) ∧
    u64 (u64 ((q1 : Int) * 4294967296) + (q0 : Int)) = (((u * 18446744073709551616 + v) / Y : Nat) : Int) := by
  have hYY : Y / 4294967296 * 4294967296 + Y % 4294967296 = Y := by omega
  have hY0 : 0 < Y := by omega
  have hy0 : Y % 4294967296 < 4294967296 := by omega
  have hy1 : 2147483648 ≤ Y / 4294967296 := by omega
  have hy1' : Y / 4294967296 < 4294967296 := by omega
  have hv1 : v / 4294967296 < 4294967296 := by omega
  have hv0 : v % 4294967296 < 4294967296 := by omega
  have hR : (u * 4294967296 + v / 4294967296) % Y < Y := Nat.mod_lt _ hY0
  have hA := kn_all (y := Y) (n1 := u * 4294967296 + v / 4294967296) (n0 := v % 4294967296) hY0
  rw [kn_join] at hA
  refine ⟨(u * 4294967296 + v / 4294967296) / Y, (u * 4294967296 + v / 4294967296) % Y, ((u * 4294967296 + v / 4294967296) % Y * 4294967296 + v % 4294967296) / Y, ?_, ?_, Nat.lt_trans hR hb2, ?_, ?_, ?_⟩
  · have h := div64_L1 (y1 := Y / 4294967296) (y0 := Y % 4294967296) (u2 := u) (u1 := v / 4294967296) hy0 hy1 hy1' (by rw [hYY]; exact hu) hv1
    rw [hYY] at h; exact h
  · exact kn_rest hY0 hb2 (Nat.lt_trans hu hb2) hv1
  · have h := div64_L2 (y1 := Y / 4294967296) (y0 := Y % 4294967296) (u2 := (u * 4294967296 + v / 4294967296) % Y) (u1 := v % 4294967296) (q7 := v) hy0 hy1 hy1' (by rw [hYY]; exact hR) hv0 rfl
    rw [hYY] at h; exact h
  · have h := kn_rest (u := (u * 4294967296 + v / 4294967296) % Y) (u1 := v % 4294967296) hY0 hb2 (Nat.lt_trans hR hb2) hv0
    rw [hA.2]; exact h
  · rw [hA.1]
    exact kn_cat (kn_q hu hv1) (kn_q hR hv0)
theorem bnd_eq {α β : Type} {o : Option α} {x : α} {f : α → Option β} (h : o = some x) : o.bind f = f x := by rw [h]; rfl
theorem div64 {hi lo y : Nat} (hy : y < 18446744073709551616) (hh : hi < y) (hl : lo < 18446744073709551616) :
    bits_Div64 (hi : Int) (lo : Int) (y : Int) = some ((((hi * 18446744073709551616 + lo) / y : Nat) : Int), (((hi * 18446744073709551616 + lo) % y : Nat) : Int)) := by
  have hy0 : ¬ (y : Int) = 0 := by omega
  have hyh : ¬ (y : Int) ≤ (hi : Int) := by omega
  unfold bits_Div64
  simp only [hy0, hyh, decide_false, Bool.false_eq_true, if_false]
  by_cases h0 : hi = 0
  · subst h0
    simp only [Int.natCast_zero, decide_true, if_true, quoN hl (show 0 < y by omega), remN (a := lo) (show 0 < y by omega), Option.bind_some, Nat.zero_mul, Nat.zero_add]
  · have h0' : ¬ (hi : Int) = 0 := by omega
    simp only [h0', decide_false, Bool.false_eq_true, if_false]
    obtain ⟨s, hs, hlz, hb1, hb2⟩ := lz64 (y := y) (by omega) hy
    obtain ⟨hu, hlo, hU⟩ := kn_scale hs hh hl
    have es : u64 (s : Int) = (s : Int) := u64N (by omega)
    have es2 : u64 (64 - (s : Int)) = ((64 - s : Nat) : Int) := by
      rw [show (64 - (s : Int)) = ((64 - s : Nat) : Int) by omega]; exact u64N (by omega)
    have hps : 0 < 2 ^ s := Nat.pow_pos (by decide)
    have hhs : hi * 2 ^ s < 18446744073709551616 := Nat.lt_trans (Nat.lt_of_le_of_lt (Nat.le_add_right _ _) hu) hb2
    have hbor : bor .u64 ((hi * 2 ^ s : Nat) : Int) ((lo / 2 ^ (64 - s) : Nat) : Int) = ((hi * 2 ^ s + lo / 2 ^ (64 - s) : Nat) : Int) := borN hlo (Nat.lt_trans hu hb2)
    have hv : lo * 2 ^ s % 18446744073709551616 < 18446744073709551616 := Nat.mod_lt _ (by decide)
    have hdiv : (hi * 18446744073709551616 + lo) / y = (hi * 18446744073709551616 + lo) * 2 ^ s / (y * 2 ^ s) := (Nat.mul_div_mul_right _ _ hps).symm
    have hmod : (hi * 18446744073709551616 + lo) % y = (hi * 18446744073709551616 + lo) * 2 ^ s % (y * 2 ^ s) / 2 ^ s := by
      rw [Nat.mul_mod_mul_right, Nat.mul_div_cancel _ hps]
    obtain ⟨q1, R, q0, c1, c2, c3, c4, c5, c6⟩ := div64_tail hb1 hb2 hu hv
    have e32 : ∀ n : Nat, shr .u64 (n : Int) 32 = some ((n / 4294967296 : Nat) : Int) := fun n => by rw [show (32 : Int) = ((32 : Nat) : Int) from rfl, shrN (by omega), show 2 ^ 32 = 4294967296 from rfl]
    have hy1 : 0 < y * 2 ^ s / 4294967296 := Nat.div_pos (Nat.le_trans (by decide) hb1) (by decide)
    have k1 := quoN (a := hi * 2 ^ s + lo / 2 ^ (64 - s)) (Nat.lt_trans hu hb2) hy1
    have k2 := kn_sub (u := hi * 2 ^ s + lo / 2 ^ (64 - s)) (y1 := y * 2 ^ s / 4294967296) (Nat.lt_trans hu hb2)
    have k3 := quoN (a := R) c3 hy1
    have k4 := kn_sub (u := R) (y1 := y * 2 ^ s / 4294967296) c3
    rw [hdiv, hmod, hU]
    rw [bnd_eq hlz, es, bnd_eq (shlN (show s ≤ 64 by omega) hb2), bnd_eq (e32 _), bnd_eq (shlN (show s ≤ 64 by omega) hhs), es2, bnd_eq (shrN (n := lo) (show 64 - s ≤ 64 by omega)), bnd_eq (shlM (n := lo) (show s ≤ 64 by omega)), bnd_eq (e32 _), hbor, bnd_eq k1, k2, bnd_eq c1, t1_mk, c2, bnd_eq k3, k4, bnd_eq c4, t1_mk, bandN, c5, bnd_eq (shrN (show s ≤ 64 by omega)), c6]
end Go.Vx

namespace Go.Vx
open Go Go.RowKit
/-! ## Numbers of 128 bits -/
theorem i64N {n : Nat} (h : n < 9223372036854775808) : i64 (n : Int) = (n : Int) := i64_id (by omega) (by omega)
theorem mul_bd {a b A B : Nat} (ha : a ≤ A) (hb : b ≤ B) : a * b ≤ A * B := Nat.mul_le_mul ha hb
theorem mul_core {P Q R S : Nat} : (P * 18446744073709551616 + (Q + R) * 4294967296 + S) / 18446744073709551616 = P + (Q + S / 4294967296) / 4294967296 + ((Q + S / 4294967296) % 4294967296 + R) / 4294967296 := by omega
theorem mul_split (x y : Nat) : x * y = x / 4294967296 * (y / 4294967296) * 18446744073709551616 + (x / 4294967296 * (y % 4294967296) + x % 4294967296 * (y / 4294967296)) * 4294967296 + x % 4294967296 * (y % 4294967296) := by
  have hx : x = x / 4294967296 * 4294967296 + x % 4294967296 := by omega
  have hy : y = y / 4294967296 * 4294967296 + y % 4294967296 := by omega
  generalize x / 4294967296 = a at hx
  generalize x % 4294967296 = b at hx
  generalize y / 4294967296 = c at hy
  generalize y % 4294967296 = d at hy
  subst hx; subst hy
  rw [Nat.add_mul, Nat.mul_add, Nat.mul_add]
  have e1 : a * 4294967296 * (c * 4294967296) = a * c * 18446744073709551616 := by rw [Nat.mul_mul_mul_comm]
  have e2 : a * 4294967296 * d = a * d * 4294967296 := by rw [Nat.mul_right_comm]
  have e3 : b * (c * 4294967296) = b * c * 4294967296 := by rw [Nat.mul_assoc]
  rw [e1, e2, e3, Nat.add_mul]
  omega
theorem mul64_high {P Q R S : Nat} (hQ : Q ≤ 18446744065119617025) (hR : R ≤ 18446744065119617025) (hS : S ≤ 18446744065119617025) :
    u64 ((Q : Int) + ((S / 4294967296 : Nat) : Int)) = ((Q + S / 4294967296 : Nat) : Int) ∧ u64 ((((Q + S / 4294967296) % 4294967296 : Nat) : Int) + (R : Int)) = (((Q + S / 4294967296) % 4294967296 + R : Nat) : Int) ∧
    u64 (u64 ((P : Int) + (((Q + S / 4294967296) / 4294967296 : Nat) : Int)) + ((((Q + S / 4294967296) % 4294967296 + R) / 4294967296 : Nat) : Int)) = ((P + (Q + S / 4294967296) / 4294967296 + ((Q + S / 4294967296) % 4294967296 + R) / 4294967296) % 18446744073709551616 : Nat) := by
  refine ⟨?_, ?_, ?_⟩
  · rw [← Int.natCast_add]; exact u64N (by omega)
  · rw [← Int.natCast_add]; exact u64N (by omega)
  · simp only [u64E]; omega
theorem mul64 {x y : Nat} (hx : x < 18446744073709551616) (hy : y < 18446744073709551616) : bits_Mul64 (x : Int) (y : Int) = some (((x * y / 18446744073709551616 : Nat) : Int), ((x * y % 18446744073709551616 : Nat) : Int)) := by
  have e32 : ∀ n : Nat, shr .u64 (n : Int) 32 = some ((n / 4294967296 : Nat) : Int) := fun n => by rw [show (32 : Int) = ((32 : Nat) : Int) from rfl, shrN (by omega)]
  have hx1 : x / 4294967296 ≤ 4294967295 := by omega
  have hx0 : x % 4294967296 ≤ 4294967295 := by omega
  have hy1 : y / 4294967296 ≤ 4294967295 := by omega
  have hy0 : y % 4294967296 ≤ 4294967295 := by omega
  have hS := mul_le32 hx0 hy0
  have hQ := mul_le32 hx1 hy0
  have hR := mul_le32 hx0 hy1
  have hP := mul_le32 hx1 hy1
  obtain ⟨g1, g2, g3⟩ := mul64_high (P := x / 4294967296 * (y / 4294967296)) hQ hR hS
  have hsp := mul_split x y
  have hhi : x * y / 18446744073709551616 = x / 4294967296 * (y / 4294967296) + (x / 4294967296 * (y % 4294967296) + x % 4294967296 * (y % 4294967296) / 4294967296) / 4294967296 + ((x / 4294967296 * (y % 4294967296) + x % 4294967296 * (y % 4294967296) / 4294967296) % 4294967296 + x % 4294967296 * (y / 4294967296)) / 4294967296 := by
    conv => lhs; rw [hsp]
    exact mul_core
  have hlt : x * y / 18446744073709551616 < 18446744073709551616 := by
    rw [Nat.div_lt_iff_lt_mul (by decide)]
    exact Nat.lt_of_le_of_lt (Nat.mul_le_mul_left x (Nat.le_of_lt hy)) (Nat.mul_lt_mul_of_pos_right hx (by decide))
  rw [← hhi, Nat.mod_eq_of_lt hlt] at g3
  have m1 : ((x % 4294967296 : Nat) : Int) * ((y % 4294967296 : Nat) : Int) = ((x % 4294967296 * (y % 4294967296) : Nat) : Int) := (Int.natCast_mul _ _).symm
  have m2 : ((x / 4294967296 : Nat) : Int) * ((y % 4294967296 : Nat) : Int) = ((x / 4294967296 * (y % 4294967296) : Nat) : Int) := (Int.natCast_mul _ _).symm
  have m3 : ((x % 4294967296 : Nat) : Int) * ((y / 4294967296 : Nat) : Int) = ((x % 4294967296 * (y / 4294967296) : Nat) : Int) := (Int.natCast_mul _ _).symm
  have m4 : ((x / 4294967296 : Nat) : Int) * ((y / 4294967296 : Nat) : Int) = ((x / 4294967296 * (y / 4294967296) : Nat) : Int) := (Int.natCast_mul _ _).symm
  have m5 : u64 ((x : Int) * (y : Int)) = ((x * y % 18446744073709551616 : Nat) : Int) := by rw [← Int.natCast_mul, u64E]; rfl
  have n1 : u64 ((x % 4294967296 * (y % 4294967296) : Nat) : Int) = ((x % 4294967296 * (y % 4294967296) : Nat) : Int) := u64N (Nat.lt_of_le_of_lt hS (by decide))
  have n2 : u64 ((x / 4294967296 * (y % 4294967296) : Nat) : Int) = ((x / 4294967296 * (y % 4294967296) : Nat) : Int) := u64N (Nat.lt_of_le_of_lt hQ (by decide))
  have n3 : u64 ((x % 4294967296 * (y / 4294967296) : Nat) : Int) = ((x % 4294967296 * (y / 4294967296) : Nat) : Int) := u64N (Nat.lt_of_le_of_lt hR (by decide))
  have n4 : u64 ((x / 4294967296 * (y / 4294967296) : Nat) : Int) = ((x / 4294967296 * (y / 4294967296) : Nat) : Int) := u64N (Nat.lt_of_le_of_lt hP (by decide))
  unfold bits_Mul64
  rw [bnd_eq (e32 x), bnd_eq (e32 y), bandN, bandN, m1, n1, bnd_eq (e32 _), m2, n2, g1, bnd_eq (e32 _), bandN, m3, n3, g2, bnd_eq (e32 _), m4, n4, g3, m5]
theorem add64N {x y c : Nat} (hc : c ≤ 1) : bits_Add64 (x : Int) (y : Int) (c : Int) = some ((((x + y + c) % 18446744073709551616 : Nat) : Int), (((x + y + c) / 18446744073709551616 : Nat) : Int)) := by
  unfold bits_Add64
  rw [if_pos ⟨by omega, by omega, by omega, by omega⟩]
  rfl
theorem sub64N {x y b : Nat} (hb : b ≤ 1) : bits_Sub64 (x : Int) (y : Int) (b : Int) = some ((((x + 18446744073709551616 - y - b) % 18446744073709551616 : Nat) : Int), ((if x < y + b then 1 else 0 : Nat) : Int)) := by
  unfold bits_Sub64
  rw [if_pos ⟨by omega, by omega, by omega, by omega⟩]
  rfl
def swide (v : Nat) : series_wide := ⟨((v / 18446744073709551616 : Nat) : Int), ((v % 18446744073709551616 : Nat) : Int)⟩
theorem wadd {v p : Nat} (h : v + p < 340282366920938463463374607431768211456) :
    u64 (((v / 18446744073709551616 : Nat) : Int) + u64 (((p / 18446744073709551616 : Nat) : Int) + (((v % 18446744073709551616 + p % 18446744073709551616 + 0) / 18446744073709551616 : Nat) : Int))) = (((v + p) / 18446744073709551616 : Nat) : Int) ∧
    (v % 18446744073709551616 + p % 18446744073709551616 + 0) % 18446744073709551616 = (v + p) % 18446744073709551616 := by
  refine ⟨?_, by omega⟩
  simp only [u64E]; omega
theorem addProduct_s {v a b : Nat} (ha : a < 18446744073709551616) (hb : b < 18446744073709551616) (h : v + a * b < 340282366920938463463374607431768211456) :
    series_wide_addProduct (swide v) (a : Int) (b : Int) = some (swide (v + a * b)) := by
  unfold series_wide_addProduct
  obtain ⟨h1, h2⟩ := wadd h
  have e := add64N (x := v % 18446744073709551616) (y := a * b % 18446744073709551616) (c := 0) (by omega)
  rw [u64N ha, u64N hb, bnd_eq (mul64 ha hb)]
  rw [show ((0 : Nat) : Int) = 0 from rfl] at e
  unfold swide
  dsimp only
  rw [bnd_eq e]
  dsimp only
  rw [h1, h2]
theorem less_s (v w : Nat) : series_wide_less (swide v) (swide w) = some (decide (v < w)) := by
  unfold series_wide_less swide
  congr 1
  rw [Bool.eq_iff_iff]
  simp only [Bool.or_eq_true, Bool.and_eq_true, decide_eq_true_iff]
  omega
theorem wsub {v w : Nat} (h : w ≤ v) (hv : v < 340282366920938463463374607431768211456) :
    u64 (u64 (((v / 18446744073709551616 : Nat) : Int) - ((w / 18446744073709551616 : Nat) : Int)) - ((if v % 18446744073709551616 < w % 18446744073709551616 + 0 then 1 else 0 : Nat) : Int)) = (((v - w) / 18446744073709551616 : Nat) : Int) ∧
    (v % 18446744073709551616 + 18446744073709551616 - w % 18446744073709551616 - 0) % 18446744073709551616 = (v - w) % 18446744073709551616 := by
  refine ⟨?_, by omega⟩
  simp only [u64E]
  by_cases hc : v % 18446744073709551616 < w % 18446744073709551616 + 0
  · rw [if_pos hc]; omega
  · rw [if_neg hc]; omega
theorem minus_s {v w : Nat} (h : w ≤ v) (hv : v < 340282366920938463463374607431768211456) : series_wide_minus (swide v) (swide w) = some (swide (v - w)) := by
  unfold series_wide_minus
  obtain ⟨h1, h2⟩ := wsub h hv
  have e := sub64N (x := v % 18446744073709551616) (y := w % 18446744073709551616) (b := 0) (by omega)
  rw [show ((0 : Nat) : Int) = 0 from rfl] at e
  unfold swide
  dsimp only
  rw [bnd_eq e]
  dsimp only
  rw [h1, h2]
theorem rem64N {v den : Nat} (hd : 0 < den) (hd2 : den < 18446744073709551616) : bits_Rem64 ((v / 18446744073709551616 : Nat) : Int) ((v % 18446744073709551616 : Nat) : Int) (den : Int) = some ((v % den : Nat) : Int) := by
  unfold bits_Rem64
  have h1 : v / 18446744073709551616 % den < den := Nat.mod_lt _ hd
  have h2 := div64 (hi := v / 18446744073709551616 % den) (lo := v % 18446744073709551616) (y := den) hd2 h1 (Nat.mod_lt _ (by decide))
  rw [bnd_eq (remN hd), bnd_eq h2]
  have e : (v / 18446744073709551616 % den * 18446744073709551616 + v % 18446744073709551616) % den = v % den := by
    have h3 := Nat.div_add_mod v 18446744073709551616
    conv => rhs; rw [← h3, Nat.mul_comm]
    rw [Nat.add_mod, Nat.mul_mod, Nat.mod_mod, ← Nat.mul_mod, ← Nat.add_mod]
  rw [e]
theorem divisorN {a b : Nat} (ha : a ≤ 4611686018427387904) (hb : b ≤ 4611686018427387904) : series_divisor (a : Int) (b : Int) = some ((Nat.gcd a b : Nat) : Int) := by
  rw [divisor_s (by omega) (by omega) (by omega) (by omega)]; rfl
def fin (v : Nat) (den : Nat) : Nat × Nat := (v / Nat.gcd v den, den / Nat.gcd v den)
theorem gcd_mod (v den : Nat) : Nat.gcd (v % den) den = Nat.gcd v den := by
  rw [← Nat.gcd_rec, Nat.gcd_comm]
theorem high_iff {v g : Nat} (hg : 0 < g) : g ≤ v / 18446744073709551616 ↔ 18446744073709551616 ≤ v / g := by
  rw [Nat.le_div_iff_mul_le (by decide), Nat.le_div_iff_mul_le hg, Nat.mul_comm]
theorem fraction_s {v den : Nat} (hd : 0 < den) (hd2 : den ≤ 4611686018427387904) :
    ∃ r, series_wide_fraction (swide v) (den : Int) = some r ∧ r.2 = decide ((fin v den).1 ≤ 4611686018427387904) ∧ (r.2 = true → r.1 = ⟨(((fin v den).1 : Nat) : Int), (((fin v den).2 : Nat) : Int)⟩) := by
  unfold series_wide_fraction swide
  have hg : 0 < Nat.gcd v den := Nat.gcd_pos_of_pos_right _ hd
  have hg2 : Nat.gcd v den ≤ den := Nat.gcd_le_right _ hd
  have hgM : Nat.gcd v den < 18446744073709551616 := by omega
  have hm : v % den < den := Nat.mod_lt _ hd
  have hdM : den < 18446744073709551616 := by omega
  have eu : u64 (den : Int) = (den : Int) := u64N hdM
  have ei : i64 ((v % den : Nat) : Int) = ((v % den : Nat) : Int) := i64N (by omega)
  have eg : u64 ((Nat.gcd v den : Nat) : Int) = ((Nat.gcd v den : Nat) : Int) := u64N hgM
  have egi : i64 ((Nat.gcd v den : Nat) : Int) = ((Nat.gcd v den : Nat) : Int) := i64N (by omega)
  have hdv := divisorN (a := v % den) (b := den) (by omega) hd2
  rw [gcd_mod] at hdv
  rw [eu, bnd_eq (rem64N hd hdM), ei, bnd_eq hdv, eg]
  have hfin : (fin v den).1 = v / Nat.gcd v den := rfl
  have hfin2 : (fin v den).2 = den / Nat.gcd v den := rfl
  rw [hfin, hfin2]
  by_cases hc : Nat.gcd v den ≤ v / 18446744073709551616
  · have hc' : ((Nat.gcd v den : Nat) : Int) ≤ ((v / 18446744073709551616 : Nat) : Int) := Int.ofNat_le.2 hc
    have hbig := (high_iff hg).1 hc
    rw [if_pos (decide_eq_true hc')]
    refine ⟨_, rfl, ?_, fun h => by cases h⟩
    symm
    rw [decide_eq_false_iff_not]; omega
  · have hc' : ¬ ((Nat.gcd v den : Nat) : Int) ≤ ((v / 18446744073709551616 : Nat) : Int) := fun h => hc (Int.ofNat_le.1 h)
    have hsm : ¬ 18446744073709551616 ≤ v / Nat.gcd v den := fun h => hc ((high_iff hg).2 h)
    have h2 := div64 (hi := v / 18446744073709551616) (lo := v % 18446744073709551616) (y := Nat.gcd v den) hgM (by omega) (Nat.mod_lt _ (by decide))
    have e : v / 18446744073709551616 * 18446744073709551616 + v % 18446744073709551616 = v := by omega
    rw [e] at h2
    have hq : quo .i64 (den : Int) ((Nat.gcd v den : Nat) : Int) = some ((den / Nat.gcd v den : Nat) : Int) := by
      unfold quo
      rw [if_neg (by omega)]
      have : (den : Int).tdiv ((Nat.gcd v den : Nat) : Int) = ((den / Nat.gcd v den : Nat) : Int) := by rw [Int.tdiv_eq_ediv_of_nonneg (by omega)]; rfl
      rw [this]
      have hle : den / Nat.gcd v den ≤ den := Nat.div_le_self _ _
      congr 1; exact i64N (by omega)
    rw [if_neg (by rw [decide_eq_false hc']; simp), bnd_eq h2, egi, bnd_eq hq]
    refine ⟨_, rfl, ?_, fun h => ?_⟩
    · simp only [decide_eq_decide]; omega
    · simp only [decide_eq_true_iff] at h
      simp only [api_Ratio.mk.injEq, and_true]
      exact i64N (by omega)
end Go.Vx

namespace Go.Vx
open Go Go.RowKit
/-- A loop of n rounds, by what holds ahead of each. -/
theorem loop_rel {S ρ : Type} {body : S → Option (S ⊕ ρ)} (n : Nat) (R : Nat → S → Prop) (Q : ρ → Prop) (hstep : ∀ k s, k < n → R k s → ∃ s', body s = some (.inl s') ∧ R (k + 1) s')
    (hend : ∀ s, R n s → ∃ r, body s = some (.inr r) ∧ Q r) : ∀ s0, R 0 s0 → ∃ r, loop body s0 = some r ∧ Q r := by
  have key : ∀ m k s, k + m = n → R k s → ∃ r, loop body s = some r ∧ Q r := by
    intro m
    induction m with
    | zero =>
      intro k s hk hs
      have : k = n := by omega
      subst this
      obtain ⟨r, h1, h2⟩ := hend s hs
      exact ⟨r, by rw [loop_eq, h1]; rfl, h2⟩
    | succ m ih =>
      intro k s hk hs
      obtain ⟨s', h1, h2⟩ := hstep k s (by omega) hs
      obtain ⟨r, h3, h4⟩ := ih (k + 1) s' (by omega) h2
      exact ⟨r, by rw [loop_eq, h1]; exact h3, h4⟩
  exact fun s0 h0 => key n 0 s0 (by omega) h0
/-! ## The reference's wide numbers -/
structure RWd (w : ref5_wide) (z : Int) : Prop where
  high : w.high = ((z.natAbs / 18446744073709551616 : Nat) : Int)
  low : w.low = ((z.natAbs % 18446744073709551616 : Nat) : Int)
  neg : z ≠ 0 → w.neg = decide (z < 0)
theorem sign_mul {a : Int} {b : Nat} (h : a * (b : Int) ≠ 0) : decide (a < 0) = decide (a * (b : Int) < 0) := by
  have hb : 0 < (b : Int) := by
    rcases Nat.eq_zero_or_pos b with rfl | h0
    · simp at h
    · omega
  rw [decide_eq_decide]
  constructor
  · intro h1; exact Int.mul_neg_of_neg_of_pos h1 hb
  · intro h1
    rcases Int.lt_or_le a 0 with h2 | h2
    · exact h2
    · have := Int.mul_nonneg h2 (Int.le_of_lt hb); omega
theorem product_s {a : Int} {b : Nat} (ha : -4611686018427387904 ≤ a ∧ a ≤ 4611686018427387904) (hb : b < 18446744073709551616) : ∃ w, ref5_product a (b : Int) = some w ∧ RWd w (a * (b : Int)) := by
  have e1 : i64 (-a) = -a := i64_id (by omega) (by omega)
  have e2 : (if (decide (a < 0)) = true then some (i64 (-a)) else some a) = some ((a.natAbs : Nat) : Int) := by
    by_cases h : a < 0
    · rw [if_pos (decide_eq_true h), e1]; congr 1; omega
    · rw [if_neg (by simpa using h)]; congr 1; omega
  have hA : a.natAbs < 18446744073709551616 := by omega
  unfold ref5_product
  rw [e2, Option.bind_some, t1_mk, u64N hA, u64N hb, bnd_eq (mul64 hA hb)]
  refine ⟨_, rfl, ?_, ?_, fun h => sign_mul h⟩
  · rw [Int.natAbs_mul]; rfl
  · rw [Int.natAbs_mul]; rfl
theorem radd {v p : Nat} (h : v + p < 340282366920938463463374607431768211456) :
    (v / 18446744073709551616 + p / 18446744073709551616 + (v % 18446744073709551616 + p % 18446744073709551616 + 0) / 18446744073709551616) % 18446744073709551616 = (v + p) / 18446744073709551616 ∧
    (v % 18446744073709551616 + p % 18446744073709551616 + 0) % 18446744073709551616 = (v + p) % 18446744073709551616 ∧ (v % 18446744073709551616 + p % 18446744073709551616 + 0) / 18446744073709551616 ≤ 1 := by omega
theorem rsub {v w : Nat} (h : w ≤ v) (hv : v < 340282366920938463463374607431768211456) :
    (v / 18446744073709551616 + 18446744073709551616 - w / 18446744073709551616 - (if v % 18446744073709551616 < w % 18446744073709551616 + 0 then 1 else 0)) % 18446744073709551616 = (v - w) / 18446744073709551616 ∧
    (v % 18446744073709551616 + 18446744073709551616 - w % 18446744073709551616 - 0) % 18446744073709551616 = (v - w) % 18446744073709551616 := by
  refine ⟨?_, by omega⟩
  by_cases hc : v % 18446744073709551616 < w % 18446744073709551616 + 0
  · rw [if_pos hc]; omega
  · rw [if_neg hc]; omega
theorem ite_le1 {c : Prop} [Decidable c] : (if c then 1 else 0 : Nat) ≤ 1 := by split <;> omega
theorem add_s {a b : ref5_wide} {x y : Int} (ha : RWd a x) (hb : RWd b y) (h : x.natAbs + y.natAbs < 340282366920938463463374607431768211456) : ∃ w, ref5_add a b = some w ∧ RWd w (x + y) := by
  obtain ⟨a1, a2, a3⟩ := ha
  obtain ⟨b1, b2, b3⟩ := hb
  unfold ref5_add
  by_cases hn : (a.neg == b.neg) = true
  · rw [if_pos hn, a1, a2, b1, b2]
    obtain ⟨r1, r2, r3⟩ := radd h
    have e := add64N (x := x.natAbs % 18446744073709551616) (y := y.natAbs % 18446744073709551616) (c := 0) (by omega)
    rw [show ((0 : Nat) : Int) = 0 from rfl] at e
    have e2 := add64N (x := x.natAbs / 18446744073709551616) (y := y.natAbs / 18446744073709551616) (c := (x.natAbs % 18446744073709551616 + y.natAbs % 18446744073709551616 + 0) / 18446744073709551616) r3
    rw [bnd_eq e]
    dsimp only
    rw [bnd_eq e2]
    rw [beq_iff_eq] at hn
    have hs : (x + y).natAbs = x.natAbs + y.natAbs := by
      by_cases hx : x = 0
      · subst hx; simp
      · by_cases hy : y = 0
        · subst hy; simp
        · have h1 := a3 hx; have h2 := b3 hy
          rw [h1, h2, decide_eq_decide] at hn
          omega
    refine ⟨_, rfl, ?_, ?_, fun h0 => ?_⟩
    · rw [hs]; dsimp only; rw [r1]
    · rw [hs]; dsimp only; rw [r2]
    · dsimp only
      by_cases hx : x = 0
      · subst hx; rw [hn, b3 (by omega), Int.zero_add]
      · rw [a3 hx]
        by_cases hy : y = 0
        · subst hy; rw [Int.add_zero]
        · have h1 := a3 hx; have h2 := b3 hy
          rw [h1, h2, decide_eq_decide] at hn
          rw [decide_eq_decide]; omega
  · rw [if_neg hn]
    have hc : (((decide (a.high < b.high)) || ((decide (a.high = b.high)) && (decide (a.low < b.low)))) = true) ↔ x.natAbs < y.natAbs := by
      rw [a1, a2, b1, b2]
      simp only [Bool.or_eq_true, Bool.and_eq_true, decide_eq_true_iff]
      omega
    have hdiff : x ≠ 0 → y ≠ 0 → (x < 0 ↔ ¬ y < 0) := by
      intro hx hy
      have h1 := a3 hx; have h2 := b3 hy
      rw [beq_iff_eq, h1, h2, decide_eq_decide] at hn
      omega
    by_cases hlt : x.natAbs < y.natAbs
    · rw [if_pos (hc.2 hlt), Option.bind_some, t2_mk, a1, a2, b1, b2]
      obtain ⟨r1, r2⟩ := rsub (v := y.natAbs) (w := x.natAbs) (by omega) (by omega)
      have e := sub64N (x := y.natAbs % 18446744073709551616) (y := x.natAbs % 18446744073709551616) (b := 0) (by omega)
      rw [show ((0 : Nat) : Int) = 0 from rfl] at e
      have e2 := sub64N (x := y.natAbs / 18446744073709551616) (y := x.natAbs / 18446744073709551616) (b := if y.natAbs % 18446744073709551616 < x.natAbs % 18446744073709551616 + 0 then 1 else 0) ite_le1
      rw [bnd_eq e]
      dsimp only
      rw [bnd_eq e2]
      have hs : (x + y).natAbs = y.natAbs - x.natAbs := by
        by_cases hx : x = 0
        · subst hx; simp
        · by_cases hy : y = 0
          · subst hy; simp at hlt
          · have := hdiff hx hy; omega
      refine ⟨_, rfl, ?_, ?_, fun h0 => ?_⟩
      · rw [hs]; dsimp only; rw [r1]
      · rw [hs]; dsimp only; rw [r2]
      · dsimp only
        have hy : y ≠ 0 := by omega
        rw [b3 hy, decide_eq_decide]
        by_cases hx : x = 0
        · subst hx; simp
        · have := hdiff hx hy; omega
    · rw [if_neg (fun h0 => hlt (hc.1 h0)), Option.bind_some, t2_mk, a1, a2, b1, b2]
      obtain ⟨r1, r2⟩ := rsub (v := x.natAbs) (w := y.natAbs) (by omega) (by omega)
      have e := sub64N (x := x.natAbs % 18446744073709551616) (y := y.natAbs % 18446744073709551616) (b := 0) (by omega)
      rw [show ((0 : Nat) : Int) = 0 from rfl] at e
      have e2 := sub64N (x := x.natAbs / 18446744073709551616) (y := y.natAbs / 18446744073709551616) (b := if x.natAbs % 18446744073709551616 < y.natAbs % 18446744073709551616 + 0 then 1 else 0) ite_le1
      rw [bnd_eq e]
      dsimp only
      rw [bnd_eq e2]
      have hs : (x + y).natAbs = x.natAbs - y.natAbs := by
        by_cases hy : y = 0
        · subst hy; simp
        · by_cases hx : x = 0
          · subst hx; omega
          · have := hdiff hx hy; omega
      refine ⟨_, rfl, ?_, ?_, fun h0 => ?_⟩
      · rw [hs]; dsimp only; rw [r1]
      · rw [hs]; dsimp only; rw [r2]
      · dsimp only
        have hx : x ≠ 0 := by
          intro hx; subst hx
          have : y = 0 := by omega
          subst this; exact h0 rfl
        rw [a3 hx, decide_eq_decide]
        by_cases hy : y = 0
        · subst hy; simp
        · have := hdiff hx hy; omega
theorem rgcdN {a b : Nat} : ref5_gcd (a : Int) (b : Int) = some ((Nat.gcd a b : Nat) : Int) := by
  rw [rgcd_s (by omega) (by omega)]; rfl
theorem ratio_s {a : ref5_wide} {z : Int} (ha : RWd a z) (hz : z.natAbs < 340282366920938463463374607431768211456) {den : Nat} (hd : 0 < den) (hd2 : den ≤ 4611686018427387904) :
    ∃ r, ref5_ratio a (den : Int) = some r ∧ r.2 = decide ((fin z.natAbs den).1 ≤ 4611686018427387904) ∧ (r.2 = true → r.1 = ⟨if z < 0 then -(((fin z.natAbs den).1 : Nat) : Int) else (((fin z.natAbs den).1 : Nat) : Int), (((fin z.natAbs den).2 : Nat) : Int)⟩) := by
  obtain ⟨a1, a2, a3⟩ := ha
  unfold ref5_ratio
  have hg : 0 < Nat.gcd z.natAbs den := Nat.gcd_pos_of_pos_right _ hd
  have hg2 : Nat.gcd z.natAbs den ≤ den := Nat.gcd_le_right _ hd
  have hfin : (fin z.natAbs den).1 = z.natAbs / Nat.gcd z.natAbs den := rfl
  have hfin2 : (fin z.natAbs den).2 = den / Nat.gcd z.natAbs den := rfl
  by_cases h0 : z = 0
  · subst h0
    have hc : ((decide (a.high = 0)) && (decide (a.low = 0))) = true := by rw [a1, a2]; rfl
    rw [if_pos hc]
    refine ⟨_, rfl, ?_, fun _ => ?_⟩
    · symm; rw [decide_eq_true_iff, hfin]; simp
    · rw [hfin, hfin2]
      simp [Nat.div_self hd]
  · have hc : ¬ ((decide (a.high = 0)) && (decide (a.low = 0))) = true := by
      rw [a1, a2]; simp only [Bool.and_eq_true, decide_eq_true_iff]; omega
    rw [if_neg hc, a1, a2]
    have hneg := a3 h0
    generalize z.natAbs = v at *
    have hgM : Nat.gcd v den < 18446744073709551616 := by omega
    have hdM : den < 18446744073709551616 := by omega
    have hm : v % den < den := Nat.mod_lt _ hd
    have eu : u64 (den : Int) = (den : Int) := u64N hdM
    have eg : u64 ((Nat.gcd v den : Nat) : Int) = ((Nat.gcd v den : Nat) : Int) := u64N hgM
    have ei : i64 ((v % den : Nat) : Int) = ((v % den : Nat) : Int) := i64N (by omega)
    have hvM : v / 18446744073709551616 < 18446744073709551616 := by omega
    have h2 := div64 (hi := v / 18446744073709551616 % den) (lo := v % 18446744073709551616) (y := den) hdM (Nat.mod_lt _ hd) (Nat.mod_lt _ (by decide))
    have e : (v / 18446744073709551616 % den * 18446744073709551616 + v % 18446744073709551616) % den = v % den := by
      have h3 := Nat.div_add_mod v 18446744073709551616
      conv => rhs; rw [← h3, Nat.mul_comm]
      rw [Nat.add_mod, Nat.mul_mod, Nat.mod_mod, ← Nat.mul_mod, ← Nat.add_mod]
    rw [e] at h2
    have hgc := rgcdN (a := den) (b := v % den)
    rw [Nat.gcd_comm, gcd_mod] at hgc
    rw [eu, bnd_eq (remN hd), bnd_eq h2]
    dsimp only
    rw [ei, bnd_eq hgc, eg, bnd_eq (quoN hvM hg), bnd_eq (remN hg)]
    have hq : quo .i64 (den : Int) ((Nat.gcd v den : Nat) : Int) = some ((den / Nat.gcd v den : Nat) : Int) := by
      unfold quo
      rw [if_neg (by omega)]
      have : (den : Int).tdiv ((Nat.gcd v den : Nat) : Int) = ((den / Nat.gcd v den : Nat) : Int) := by rw [Int.tdiv_eq_ediv_of_nonneg (by omega)]; rfl
      rw [this]
      have hle : den / Nat.gcd v den ≤ den := Nat.div_le_self _ _
      congr 1; exact i64N (by omega)
    have h4 := div64 (hi := v / 18446744073709551616 % Nat.gcd v den) (lo := v % 18446744073709551616) (y := Nat.gcd v den) hgM (Nat.mod_lt _ hg) (Nat.mod_lt _ (by decide))
    rw [bnd_eq h4, bnd_eq hq]
    dsimp only
    have hdg : ¬ (4611686018427387904 : Int) < ((den / Nat.gcd v den : Nat) : Int) := by
      have hle : den / Nat.gcd v den ≤ den := Nat.div_le_self _ _
      omega
    by_cases hb : Nat.gcd v den ≤ v / 18446744073709551616
    · have hbig := (high_iff hg).1 hb
      have hne : ¬ ((v / 18446744073709551616 / Nat.gcd v den : Nat) : Int) = 0 := by
        have : 0 < v / 18446744073709551616 / Nat.gcd v den := Nat.div_pos hb hg
        omega
      rw [if_pos (by rw [decide_eq_false hne]; rfl)]
      refine ⟨_, rfl, ?_, fun h => by cases h⟩
      symm; rw [decide_eq_false_iff_not, hfin]; omega
    · have hsm : ¬ 18446744073709551616 ≤ v / Nat.gcd v den := fun h => hb ((high_iff hg).2 h)
      have e0 : v / 18446744073709551616 / Nat.gcd v den = 0 := Nat.div_eq_of_lt (by omega)
      have e1 : v / 18446744073709551616 % Nat.gcd v den = v / 18446744073709551616 := Nat.mod_eq_of_lt (by omega)
      have e2 : v / 18446744073709551616 * 18446744073709551616 + v % 18446744073709551616 = v := by omega
      rw [e0, e1, e2, hfin, hfin2]
      by_cases hl : v / Nat.gcd v den ≤ 4611686018427387904
      · have hl' : ¬ (4611686018427387904 : Int) < ((v / Nat.gcd v den : Nat) : Int) := by omega
        have ein : i64 ((v / Nat.gcd v den : Nat) : Int) = ((v / Nat.gcd v den : Nat) : Int) := i64N (by omega)
        have ein2 : i64 (-((v / Nat.gcd v den : Nat) : Int)) = -((v / Nat.gcd v den : Nat) : Int) := i64_id (by omega) (by omega)
        rw [if_neg (by rw [decide_eq_false hl', decide_eq_false hdg]; simp), hneg, ein, ein2]
        by_cases hs : z < 0
        · rw [if_pos (decide_eq_true hs), Option.bind_some, t1_mk]
          exact ⟨_, rfl, (decide_eq_true hl).symm, fun _ => by simp [hs]⟩
        · rw [if_neg (by simpa using hs), Option.bind_some, t1_mk]
          exact ⟨_, rfl, (decide_eq_true hl).symm, fun _ => by simp [hs]⟩
      · have hl' : (4611686018427387904 : Int) < ((v / Nat.gcd v den : Nat) : Int) := by omega
        rw [if_pos (by rw [decide_eq_true hl']; simp)]
        exact ⟨_, rfl, (decide_eq_false hl).symm, fun h => by cases h⟩
end Go.Vx

namespace Go.Vx
open Go Go.RowKit
/-! ## Mean -/
def endN (s : api_Series) (to long : Int) (k : Nat) (x : Smp) : Int := match s.Samples[k + 1]? with | some y => min (min to (x.At + long + 1)) y.At | none => min to (x.At + long + 1)
def spanN (s : api_Series) (from_ to long : Int) (k : Nat) (x : Smp) : Int := endN s to long k x - max from_ x.At
def mnF (s : api_Series) (from_ to long : Int) (k : Nat) (st : Nat × Nat × Nat) : Nat × Nat × Nat := match s.Samples[k]? with
  | none => st
  | some x => if sol x = true ∧ 0 < spanN s from_ to long k x then (if x.N < 0 then (st.1, st.2.1 + x.N.natAbs * (spanN s from_ to long k x).toNat, st.2.2 + (spanN s from_ to long k x).toNat) else (st.1 + x.N.natAbs * (spanN s from_ to long k x).toNat, st.2.1, st.2.2 + (spanN s from_ to long k x).toNat)) else st
def stN (s : api_Series) (from_ to long : Int) : Nat → Nat × Nat × Nat
  | 0 => (0, 0, 0)
  | k + 1 => mnF s from_ to long k (stN s from_ to long k)
structure MnIn (from_ to long : Int) : Prop where
  f : 0 ≤ from_
  ft : from_ ≤ to
  t : to ≤ 1099511627776
  l : 0 ≤ long ∧ long ≤ 1099511627776
theorem end_le (s : api_Series) (to long : Int) (k : Nat) (x : Smp) : endN s to long k x ≤ to := by
  unfold endN; split <;> omega
theorem end_lo {s : api_Series} (hs : SerOK s) {from_ to long : Int} (h : MnIn from_ to long) {k : Nat} {x : Smp} (hx : s.Samples[k]? = some x) : 0 ≤ endN s to long k x := by
  have h1 := (hs.at' k x hx).1
  have := h.f; have := h.ft; have := h.l
  unfold endN; split
  · rename_i y hy
    have h2 := (hs.at' _ y hy).1
    omega
  · omega
theorem span_le {s : api_Series} (hs : SerOK s) {from_ to long : Int} (h : MnIn from_ to long) {k : Nat} {x : Smp} (hx : s.Samples[k]? = some x) : spanN s from_ to long k x ≤ 1099511627776 := by
  have h1 := (hs.at' k x hx).1
  have := end_le s to long k x
  have := h.t
  unfold spanN
  omega
theorem add_step {p k d C : Nat} (h : p ≤ k * C) (hd : d ≤ C) : p + d ≤ (k + 1) * C := by rw [Nat.add_mul, Nat.one_mul]; omega
theorem st_bd {s : api_Series} (hs : SerOK s) {from_ to long : Int} (h : MnIn from_ to long) : ∀ k, (stN s from_ to long k).1 ≤ k * 1237940039285380274899124224 ∧ (stN s from_ to long k).2.1 ≤ k * 1237940039285380274899124224 ∧ (stN s from_ to long k).2.2 ≤ k * 1099511627776
  | 0 => ⟨Nat.zero_le _, Nat.zero_le _, Nat.zero_le _⟩
  | k + 1 => by
    obtain ⟨i1, i2, i3⟩ := st_bd hs h k
    have m1 : ∀ {p C : Nat}, p ≤ k * C → p ≤ (k + 1) * C := fun hp => by rw [Nat.add_mul]; omega
    simp only [stN, mnF]
    split
    · exact ⟨m1 i1, m1 i2, m1 i3⟩
    · rename_i x hx
      have hsp := span_le hs h hx
      have hN := (hs.at' k x hx).2.1
      have hd : x.N.natAbs * (spanN s from_ to long k x).toNat ≤ 1237940039285380274899124224 := Nat.le_trans (mul_bd (A := 1125899906842624) (B := 1099511627776) (by omega) (by omega)) (by decide)
      split
      · split
        · exact ⟨m1 i1, add_step i2 hd, add_step i3 (by omega)⟩
        · exact ⟨add_step i1 hd, m1 i2, add_step i3 (by omega)⟩
      · exact ⟨m1 i1, m1 i2, m1 i3⟩
theorem k_bd {p k C D : Nat} (hk : k ≤ 20000) (h : p ≤ k * C) (hD : 20000 * C ≤ D) : p ≤ D := Nat.le_trans h (Nat.le_trans (Nat.mul_le_mul_right _ hk) hD)
theorem st_bd2 {s : api_Series} (hs : SerOK s) {from_ to long : Int} (h : MnIn from_ to long) {k : Nat} (hk : k ≤ 20000) : (stN s from_ to long k).1 ≤ 24758800785707605497982484480000 ∧ (stN s from_ to long k).2.1 ≤ 24758800785707605497982484480000 ∧ (stN s from_ to long k).2.2 ≤ 21990232555520000 := by
  obtain ⟨i1, i2, i3⟩ := st_bd hs h k
  exact ⟨k_bd hk i1 (by decide), k_bd hk i2 (by decide), k_bd hk i3 (by decide)⟩
theorem end_ex {s : api_Series} (hs : SerOK s) {from_ to long : Int} (h : MnIn from_ to long) {k : Nat} {x : Smp} (hx : s.Samples[k]? = some x) :
    (if (decide ((i64 ((k : Int) + 1)) < (s.Samples.length : Int))) = true then (idx s.Samples (i64 ((k : Int) + 1))).bind fun x2 => some (min (min to (i64 ((i64 (x.At + long)) + 1))) x2.At) else some (min to (i64 ((i64 (x.At + long)) + 1)))) = some (endN s to long k x) ∧
    ∃ e, (if (decide ((i64 ((k : Int) + 1)) < (s.Samples.length : Int))) = true then (idx s.Samples (i64 ((k : Int) + 1))).bind fun x2 => some (min (i64 ((i64 (x.At + long)) + 1)) x2.At) else some (i64 ((i64 (x.At + long)) + 1))) = some e ∧ min e to = endN s to long k x := by
  have hl := hs.len
  have hk := (List.getElem?_eq_some_iff.1 hx).1
  have h1 := (hs.at' k x hx).1
  have := h.l
  have e1 : i64 ((k : Int) + 1) = ((k + 1 : Nat) : Int) := by show IntKind.i64.wrap _ = _; rw [i64_id (by omega) (by omega)]; push_cast; rfl
  have e2 : i64 (x.At + long) = x.At + long := i64_id (by omega) (by omega)
  have e3 : i64 (x.At + long + 1) = x.At + long + 1 := i64_id (by omega) (by omega)
  rw [e1, e2, e3]
  unfold endN
  rcases Nat.lt_or_ge (k + 1) s.Samples.length with hlt | hge
  · obtain ⟨y, hy⟩ := get_ex hlt
    have hlt' : ((k + 1 : Nat) : Int) < (s.Samples.length : Int) := by omega
    rw [if_pos (decide_eq_true hlt'), if_pos (decide_eq_true hlt'), hy, bnd_eq (idx_of hy), bnd_eq (idx_of hy)]
    exact ⟨rfl, _, rfl, by simp only; omega⟩
  · have hlt' : ¬ ((k + 1 : Nat) : Int) < (s.Samples.length : Int) := by omega
    rw [if_neg (by rw [decide_eq_false hlt']; simp), if_neg (by rw [decide_eq_false hlt']; simp), List.getElem?_eq_none hge]
    exact ⟨rfl, _, rfl, by simp only; omega⟩
theorem mn_step {s : api_Series} (hs : SerOK s) {from_ to long : Int} (h : MnIn from_ to long) {k : Nat} (hk : k < s.Samples.length) :
    series_Mean_L1 s from_ to long (swide (stN s from_ to long k).1) (swide (stN s from_ to long k).2.1) (((stN s from_ to long k).2.2 : Nat) : Int) (k : Int) =
      some (.inl (swide (stN s from_ to long (k + 1)).1, swide (stN s from_ to long (k + 1)).2.1, (((stN s from_ to long (k + 1)).2.2 : Nat) : Int), ((k + 1 : Nat) : Int))) := by
  have hl := hs.len
  obtain ⟨x, hx⟩ := get_ex hk
  have hlt := lt_of hx
  obtain ⟨b1, b2, b3⟩ := st_bd2 hs h (k := k) (by omega)
  have h1 := (hs.at' k x hx).1
  have hN := (hs.at' k x hx).2.1
  have hf := h.f; have ht := h.t; have hft := h.ft
  have hel := end_le s to long k x
  have heo := end_lo hs h hx
  have hsp := span_le hs h hx
  have e1 : i64 ((k : Int) + 1) = ((k + 1 : Nat) : Int) := by show IntKind.i64.wrap _ = _; rw [i64_id (by omega) (by omega)]; push_cast; rfl
  have e4 : i64 (endN s to long k x - max from_ x.At) = spanN s from_ to long k x := i64_id (by omega) (by omega)
  unfold series_Mean_L1
  rw [if_pos (decide_eq_true hlt), bnd_eq (idx_of hx), (end_ex hs h hx).1, Option.bind_some, t1_mk, e4]
  unfold series_solid
  rw [Option.bind_some, e1]
  simp only [stN, mnF, hx]
  by_cases hc : sol x = true ∧ 0 < spanN s from_ to long k x
  · have hm : decide (3 ≤ x.Mark) = true := hc.1
    have hp : decide (spanN s from_ to long k x ≤ 0) = false := decide_eq_false (by have := hc.2; omega)
    rw [if_neg (by rw [hm, hp]; simp), if_pos hc]
    obtain ⟨n, hn⟩ := Int.eq_ofNat_of_zero_le (Int.le_of_lt hc.2)
    have hd : x.N.natAbs * n ≤ 1237940039285380274899124224 := Nat.le_trans (mul_bd (A := 1125899906842624) (B := 1099511627776) (by omega) (by omega)) (by decide)
    have e5 : i64 ((((stN s from_ to long k).2.2 : Nat) : Int) + spanN s from_ to long k x) = (((stN s from_ to long k).2.2 + n : Nat) : Int) := by
      show IntKind.i64.wrap _ = _; rw [i64_id (by omega) (by omega), hn]; push_cast; rfl
    rw [e5, hn, Int.toNat_natCast]
    by_cases hneg : x.N < 0
    · have e6 : i64 (-x.N) = ((x.N.natAbs : Nat) : Int) := by show IntKind.i64.wrap _ = _; rw [i64_id (by omega) (by omega)]; omega
      rw [if_pos (decide_eq_true hneg), if_pos hneg, e6, bnd_eq (addProduct_s (by omega) (by omega) (by omega))]
    · have e6 : x.N = ((x.N.natAbs : Nat) : Int) := by omega
      rw [if_neg (by simpa using hneg), if_neg hneg]
      conv => lhs; rw [e6]
      rw [bnd_eq (addProduct_s (by omega) (by omega) (by omega))]
  · have hm : ((!decide (3 ≤ x.Mark)) || decide (spanN s from_ to long k x ≤ 0)) = true := by
      simp only [sol, decide_eq_true_iff] at hc
      simp only [Bool.or_eq_true, Bool.not_eq_true', decide_eq_false_iff_not, decide_eq_true_iff]
      omega
    rw [if_pos hm, if_neg hc]
theorem rmn_step {s : api_Series} (hs : SerOK s) {from_ to long : Int} (h : MnIn from_ to long) {k : Nat} (hk : k < s.Samples.length) {w : ref5_wide}
    (hw : RWd w (((stN s from_ to long k).1 : Int) - ((stN s from_ to long k).2.1 : Int))) :
    ∃ w', ref5_Mean_L1 s from_ to long w (((stN s from_ to long k).2.2 : Nat) : Int) (k : Int) = some (.inl (w', (((stN s from_ to long (k + 1)).2.2 : Nat) : Int), ((k + 1 : Nat) : Int))) ∧ RWd w' (((stN s from_ to long (k + 1)).1 : Int) - ((stN s from_ to long (k + 1)).2.1 : Int)) := by
  have hl := hs.len
  obtain ⟨x, hx⟩ := get_ex hk
  have hlt := lt_of hx
  obtain ⟨b1, b2, b3⟩ := st_bd2 hs h (k := k) (by omega)
  have h1 := (hs.at' k x hx).1
  have hN := (hs.at' k x hx).2.1
  have hf := h.f; have ht := h.t; have hft := h.ft
  have hel := end_le s to long k x
  have heo := end_lo hs h hx
  have hsp := span_le hs h hx
  have e1 : i64 ((k : Int) + 1) = ((k + 1 : Nat) : Int) := by show IntKind.i64.wrap _ = _; rw [i64_id (by omega) (by omega)]; push_cast; rfl
  obtain ⟨_, e, he1, he2⟩ := end_ex hs h hx
  have e4 : i64 (min e to - max x.At from_) = spanN s from_ to long k x := by
    rw [he2, Int.max_comm]; exact i64_id (by omega) (by omega)
  unfold ref5_Mean_L1
  rw [if_pos (decide_eq_true hlt), bnd_eq (idx_of hx), he1, Option.bind_some, t1_mk, e4]
  unfold ref5_solid
  rw [Option.bind_some, e1]
  simp only [stN, mnF, hx]
  by_cases hc : sol x = true ∧ 0 < spanN s from_ to long k x
  · have hm : decide (3 ≤ x.Mark) = true := hc.1
    have hp : decide (0 < spanN s from_ to long k x) = true := decide_eq_true hc.2
    rw [if_pos (by rw [hm, hp]; simp), if_pos hc]
    obtain ⟨n, hn⟩ := Int.eq_ofNat_of_zero_le (Int.le_of_lt hc.2)
    have hd : x.N.natAbs * n ≤ 1237940039285380274899124224 := Nat.le_trans (mul_bd (A := 1125899906842624) (B := 1099511627776) (by omega) (by omega)) (by decide)
    have e5 : i64 ((((stN s from_ to long k).2.2 : Nat) : Int) + spanN s from_ to long k x) = (((stN s from_ to long k).2.2 + n : Nat) : Int) := by
      show IntKind.i64.wrap _ = _; rw [i64_id (by omega) (by omega), hn]; push_cast; rfl
    obtain ⟨w1, p1, p2⟩ := product_s (a := x.N) (b := n) (by omega) (by omega)
    have hab : (x.N * (n : Int)).natAbs = x.N.natAbs * n := by rw [Int.natAbs_mul]; rfl
    obtain ⟨w2, a1, a2⟩ := add_s hw p2 (by rw [hab]; omega)
    rw [e5, hn, Int.toNat_natCast, bnd_eq p1, bnd_eq a1]
    refine ⟨w2, ?_, ?_⟩
    · split <;> rfl
    · by_cases hneg : x.N < 0
      · rw [if_pos hneg]
        have e6 : x.N * (n : Int) = -((x.N.natAbs * n : Nat) : Int) := by
          have h7 : x.N = -((x.N.natAbs : Nat) : Int) := by omega
          conv => lhs; rw [h7]
          rw [Int.neg_mul, Int.natCast_mul]
        rw [e6] at a2
        have e7 : (((stN s from_ to long k).1 : Int) - ((stN s from_ to long k).2.1 : Int)) + -((x.N.natAbs * n : Nat) : Int) = ((stN s from_ to long k).1 : Int) - (((stN s from_ to long k).2.1 + x.N.natAbs * n : Nat) : Int) := by omega
        rw [e7] at a2; exact a2
      · rw [if_neg hneg]
        have e6 : x.N * (n : Int) = ((x.N.natAbs * n : Nat) : Int) := by
          have h7 : x.N = ((x.N.natAbs : Nat) : Int) := by omega
          conv => lhs; rw [h7]
          rw [Int.natCast_mul]
        rw [e6] at a2
        have e7 : (((stN s from_ to long k).1 : Int) - ((stN s from_ to long k).2.1 : Int)) + ((x.N.natAbs * n : Nat) : Int) = (((stN s from_ to long k).1 + x.N.natAbs * n : Nat) : Int) - ((stN s from_ to long k).2.1 : Int) := by omega
        rw [e7] at a2; exact a2
  · have hm : ¬ (decide (3 ≤ x.Mark) && decide (0 < spanN s from_ to long k x)) = true := by
      simp only [sol, decide_eq_true_iff] at hc
      simp only [Bool.and_eq_true, decide_eq_true_iff]
      exact hc
    rw [if_neg hm, if_neg hc]
    exact ⟨w, rfl, hw⟩
theorem mn_loop {s : api_Series} (hs : SerOK s) {from_ to long : Int} (h : MnIn from_ to long) :
    loop (t4 (series_Mean_L1 s from_ to long)) ((series_wide.mk 0 0), (series_wide.mk 0 0), 0, 0) = some (swide (stN s from_ to long s.Samples.length).1, swide (stN s from_ to long s.Samples.length).2.1, (((stN s from_ to long s.Samples.length).2.2 : Nat) : Int)) := by
  obtain ⟨r, h1, h2⟩ := loop_rel (body := t4 (series_Mean_L1 s from_ to long)) s.Samples.length
    (fun k p => p = (swide (stN s from_ to long k).1, swide (stN s from_ to long k).2.1, (((stN s from_ to long k).2.2 : Nat) : Int), (k : Int)))
    (fun r => r = (swide (stN s from_ to long s.Samples.length).1, swide (stN s from_ to long s.Samples.length).2.1, (((stN s from_ to long s.Samples.length).2.2 : Nat) : Int)))
    (fun k p hk hp => ⟨_, by rw [hp, t4_mk]; exact mn_step hs h hk, rfl⟩) (fun p hp => ⟨_, by rw [hp, t4_mk]; unfold series_Mean_L1; rw [if_neg (by simp)], rfl⟩) _ rfl
  rw [show (series_wide.mk 0 0) = swide 0 by simp [swide]]
  rw [h2] at h1; exact h1
theorem rmn_loop {s : api_Series} (hs : SerOK s) {from_ to long : Int} (h : MnIn from_ to long) :
    ∃ w, loop (t3 (ref5_Mean_L1 s from_ to long)) ((ref5_wide.mk false 0 0), 0, 0) = some (w, (((stN s from_ to long s.Samples.length).2.2 : Nat) : Int)) ∧ RWd w (((stN s from_ to long s.Samples.length).1 : Int) - ((stN s from_ to long s.Samples.length).2.1 : Int)) := by
  obtain ⟨r, h1, w, h2, h3⟩ := loop_rel (body := t3 (ref5_Mean_L1 s from_ to long)) s.Samples.length
    (fun k p => ∃ w, p = (w, (((stN s from_ to long k).2.2 : Nat) : Int), (k : Int)) ∧ RWd w (((stN s from_ to long k).1 : Int) - ((stN s from_ to long k).2.1 : Int)))
    (fun r => ∃ w, r = (w, (((stN s from_ to long s.Samples.length).2.2 : Nat) : Int)) ∧ RWd w (((stN s from_ to long s.Samples.length).1 : Int) - ((stN s from_ to long s.Samples.length).2.1 : Int)))
    (fun k p hk ⟨w, hp, hw⟩ => by
      obtain ⟨w', e, hw'⟩ := rmn_step hs h hk hw
      exact ⟨_, by rw [hp, t3_mk]; exact e, w', rfl, hw'⟩)
    (fun p ⟨w, hp, hw⟩ => ⟨_, by rw [hp, t3_mk]; unfold ref5_Mean_L1; rw [if_neg (by simp)], w, rfl, hw⟩) ((ref5_wide.mk false 0 0), 0, 0) ⟨ref5_wide.mk false 0 0, rfl, ⟨by simp [stN], by simp [stN], fun h => absurd rfl h⟩⟩
  rw [h2] at h1; exact ⟨w, h1, h3⟩
theorem Mean_t (s : api_Series) (from_ to long : Int) : ∃ r, series_Mean s from_ to long = some r ∧ ref5_Mean s from_ to long = some r := by
  unfold series_Mean ref5_Mean
  rw [bnd_eq (Check_s s), bnd_eq (rCheck_s s)]
  by_cases h0 : (chk s).2 = 0
  · have hs := ser_ok h0
    have hl := hs.len
    rw [if_neg (by simp [h0]), if_neg (by simp [h0])]
    by_cases hA : ((((decide (from_ < 0)) || (decide (to < from_))) || (decide (1099511627776 < to))) || (decide (1073741824 < (i64 (to - from_))))) = true
    · rw [hA]
      exact ⟨((api_Ratio.mk 0 0), 0, 9), by simp [gd], by simp [gd]⟩
    · rw [Bool.not_eq_true] at hA
      rw [hA, within_s, outside_s]
      simp only [beq_self_eq_true, gd_t, Option.bind_some, Bool.false_or]
      cases hw : wi long 0 1099511627776 with
      | false => exact ⟨((api_Ratio.mk 0 0), 0, 9), by simp, by simp⟩
      | true =>
        simp only [Bool.or_eq_false_iff, decide_eq_false_iff_not] at hA
        have h : MnIn from_ to long := ⟨by omega, by omega, by omega, wi_iff.1 hw⟩
        obtain ⟨w, hw1, hw2⟩ := rmn_loop hs h
        obtain ⟨b1, b2, b3⟩ := st_bd2 hs h (k := s.Samples.length) (by omega)
        simp only [Bool.not_true, Bool.false_eq_true, if_false]
        rw [mn_loop hs h, hw1, Option.bind_some, Option.bind_some, t3_mk, t2_mk]
        generalize stN s from_ to long s.Samples.length = st at *
        obtain ⟨p, m, t⟩ := st
        dsimp only at *
        by_cases ht : t = 0
        · subst ht
          exact ⟨((api_Ratio.mk 0 0), 0, 13), by simp, by simp⟩
        · have ht' : ¬ ((t : Nat) : Int) = 0 := by omega
          rw [if_neg (by simpa using ht), if_neg (by simpa using ht), bnd_eq (less_s p m)]
          have hz : ((p : Int) - (m : Int)).natAbs < 340282366920938463463374607431768211456 := by omega
          obtain ⟨r, r1, r2, r3⟩ := ratio_s hw2 hz (den := t) (by omega) (by omega)
          rw [bnd_eq r1]
          -- the program's two numbers
          have key : ∀ v : Nat, v = ((p : Int) - (m : Int)).natAbs → ∀ q, series_wide_fraction (swide v) (t : Int) = some q → q.2 = r.2 ∧ (q.2 = true → r.1 = ⟨if p < m then -q.1.Num else q.1.Num, q.1.Den⟩ ∧ i64 (-q.1.Num) = -q.1.Num) := by
            intro v hv q hq
            obtain ⟨q', q1, q2, q3⟩ := fraction_s (v := v) (den := t) (by omega) (by omega)
            rw [hq] at q1; cases q1
            subst hv
            refine ⟨by rw [q2, r2], fun ht2 => ?_⟩
            have ht3 := ht2
            rw [q2, decide_eq_true_iff] at ht3
            rw [q3 ht2, r3 (by rw [r2, ← q2]; exact ht2)]
            refine ⟨?_, i64_id (by simp only; omega) (by simp only; omega)⟩
            have : ((p : Int) - (m : Int) < 0) ↔ p < m := by omega
            by_cases hpm : p < m
            · rw [if_pos (this.2 hpm), if_pos hpm]
            · rw [if_neg (fun h => hpm (this.1 h)), if_neg hpm]
          by_cases hpm : p < m
          · rw [decide_eq_true hpm]
            simp only [if_true, Option.bind_some, t2_mk]
            rw [bnd_eq (minus_s (v := m) (w := p) (by omega) (by omega))]
            obtain ⟨q, q1, _⟩ := fraction_s (v := m - p) (den := t) (by omega) (by omega)
            obtain ⟨k1, k2⟩ := key (m - p) (by omega) q q1
            rw [bnd_eq q1, k1]
            cases hr : r.2 with
            | false => exact ⟨((api_Ratio.mk 0 0), 0, 3), by simp, by simp⟩
            | true =>
              obtain ⟨k3, k4⟩ := k2 (by rw [k1, hr])
              refine ⟨(r.1, ((t : Nat) : Int), 0), ?_, by simp⟩
              rw [k3, if_pos hpm]
              simp [k4]
          · rw [decide_eq_false hpm]
            simp only [Bool.false_eq_true, if_false, Option.bind_some, t2_mk]
            rw [bnd_eq (minus_s (v := p) (w := m) (by omega) (by omega))]
            obtain ⟨q, q1, _⟩ := fraction_s (v := p - m) (den := t) (by omega) (by omega)
            obtain ⟨k1, k2⟩ := key (p - m) (by omega) q q1
            rw [bnd_eq q1, k1]
            cases hr : r.2 with
            | false => exact ⟨((api_Ratio.mk 0 0), 0, 3), by simp, by simp⟩
            | true =>
              obtain ⟨k3, k4⟩ := k2 (by rw [k1, hr])
              refine ⟨(r.1, ((t : Nat) : Int), 0), ?_, by simp⟩
              rw [k3, if_neg hpm]
              simp
  · rw [if_pos (by simp [h0]), if_pos (by simp [h0])]
    exact ⟨_, rfl, rfl⟩
theorem law_Mean (s : api_Series) (from_ to long : Int) : law5_SeriesMeanMatchesSpec s from_ to long = some true := by
  obtain ⟨r, h1, h2⟩ := Mean_t s from_ to long
  simp [law5_SeriesMeanMatchesSpec, h1, h2, holds_s]
end Go.Vx
