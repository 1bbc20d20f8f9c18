/- A text of the proof: a verified executor of the program form, or the contracts of the functions that the law reaches. -/
import Derived.Test.YthdiljjohpamnaaGreatDoorRRPA
set_option linter.all false
namespace Go.Vx
open Go Go.RowKit
theorem Zdr {σ ρ : Type} {body : σ → Int → Option ((σ × Int) ⊕ ρ)} (S : Nat → σ) (R : ρ) {a b : Nat} (hab : a ≤ b)
    (hstep : ∀ k : Nat, a ≤ k → k < b → body (S k) (k : Int) = some (.inl (S (k + 1), (k : Int) + 1))) (hend : body (S b) (b : Int) = some (.inr R)) :
    loop (t2 body) (S a, (a : Int)) = some R := by
  refine Zdv (body := t2 body) (fun s => ∃ k : Nat, a ≤ k ∧ k ≤ b ∧ s = (S k, (k : Int))) (fun s => b - s.2.toNat) (fun _ => R) ?_ _ ⟨a, Nat.le_refl _, hab, rfl⟩
  rintro _ ⟨k, h1, h2, rfl⟩
  rcases Nat.lt_or_ge k b with h | h
  · exact .inl ⟨_, hstep k h1 h, ⟨k + 1, by omega, h, by push_cast; rfl⟩, by simp only; omega, rfl⟩
  · obtain rfl : k = b := by omega
    exact .inr hend
theorem ZpY {σ ρ : Type} {body : σ → Int → Option ((σ × Int) ⊕ ρ)} (S : Nat → σ) (R : ρ) {b : Nat}
    (hstep : ∀ k : Nat, k < b → body (S (b - 1 - k)) (k : Int) = some (.inl (S (b - k), (k : Int) - 1))) (hend : body (S b) (-1) = some (.inr R)) :
    loop (t2 body) (S 0, (b : Int) - 1) = some R := by
  refine Zdv (body := t2 body) (fun s => ∃ k : Nat, k ≤ b ∧ s = (S (b - k), (k : Int) - 1)) (fun s => (s.2 + 1).toNat) (fun _ => R) ?_ _ ⟨b, Nat.le_refl _, by rw [Nat.sub_self]⟩
  rintro _ ⟨k, h2, rfl⟩
  rcases Nat.eq_zero_or_pos k with rfl | h
  · exact .inr hend
  · obtain ⟨j, rfl⟩ : ∃ j, k = j + 1 := ⟨k - 1, by omega⟩
    refine .inl ⟨_, ?_, ⟨j, by omega, rfl⟩, ?_, rfl⟩
    · have := hstep j h2
      rw [show ((j + 1 : Nat) : Int) - 1 = (j : Int) by omega, show b - (j + 1) = b - 1 - j by omega]
      exact this
    · simp only; omega
def wd (f : Vector Int 64) (i : Nat) : Int := f.toList.getD i 0
def fU (f : Vector Int 64) : Prop := ∀ i, 0 ≤ wd f i ∧ wd f i ≤ 65535
theorem Z8 (f : Vector Int 64) {i : Nat} (hi : i < 64) : ZA f (i : Int) = some (wd f i) := by
  unfold ZA wd
  rw [if_pos (by omega), Int.toNat_natCast]
  obtain ⟨x, hx⟩ := ZT (xs := f.toList) (k := i) (by simp; omega)
  rw [List.getD_eq_getElem?_getD, hx]; rfl
theorem ZfH {x : Int} (h : 0 ≤ x ∧ x ≤ 65535) : Xn x = some (x % 2048) := by
  obtain ⟨n, rfl⟩ : ∃ n : Nat, x = n := ⟨x.toNat, by omega⟩
  have e0 : IntKind.u16.bits = 16 := rfl
  have e1 : (BitVec.ofInt 16 (n : Int)).toNat = n := by
    rw [BitVec.ofInt_natCast, BitVec.toNat_ofNat]; exact Nat.mod_eq_of_lt (by omega)
  have e2 : (BitVec.ofInt 16 2047).toNat = 2 ^ 11 - 1 := rfl
  have e3 : Jq .u16 (n : Int) 2047 = ((n % 2048 : Nat) : Int) := by
    unfold Jq
    rw [e0, BitVec.toNat_and, e1, e2, Nat.and_two_pow_sub_one_eq_mod]
    have : n % 2 ^ 11 < 2048 := Nat.mod_lt _ (by decide)
    simp only [IntKind.wrap, IntKind.signed, IntKind.bits]
    have e : (2 : Int) ^ 16 = 65536 := by decide
    simp [e]
    omega
  unfold Xn
  rw [e3, Z7 (by omega) (by omega)]; rfl
theorem Zfm {x : Int} (h : 0 ≤ x) (n : Int) (hn : 0 < n) : rem x n = some (x % n) := by
  unfold rem
  rw [if_neg (by omega), Int.tmod_eq_emod_of_nonneg h]
def Za7 (f : Vector Int 64) : Int := wd f 1 % 2048 + wd f 2 % 2048 * 2048
theorem ZjH (f : Vector Int 64) : 0 ≤ Za7 f ∧ Za7 f < 4194304 := by unfold Za7; omega
theorem Zqw {a b : Int} (ha : 0 ≤ a ∧ a < 2048) (hb : 0 ≤ b ∧ b < 2048) : (shl .i64 b 11).bind (fun q => some (bor .i64 a q)) = some (a + b * 2048) ∧ (shl .i64 a 11).bind (fun q => some (bor .i64 q b)) = some (a * 2048 + b) := by
  have e : ∀ z : Int, 0 ≤ z ∧ z < 2048 → shl .i64 z 11 = some (z * 2048) := fun z hz => by
    unfold shl
    rw [if_neg (by decide)]
    have e : (2 : Int) ^ min (Int.toNat 11) IntKind.i64.bits = 2048 := rfl
    rw [e, w64 (by omega) (by omega)]
  have e2 : ∀ x y : Int, 0 ≤ x ∧ x < 2048 → 0 ≤ y ∧ y < 2048 → bor .i64 x (y * 2048) = x + y * 2048 := fun x y hx hy => by
    obtain ⟨m, rfl⟩ : ∃ m : Nat, x = m := ⟨x.toNat, by omega⟩
    obtain ⟨n, rfl⟩ : ∃ n : Nat, y = n := ⟨y.toNat, by omega⟩
    have := Zr7 (a := m) (b := n) (n := 11) (by rw [show (2 : Nat) ^ 11 = 2048 by decide]; omega) (by rw [show (2 : Nat) ^ 11 = 2048 by decide, show (2 : Nat) ^ 62 = 4611686018427387904 by decide]; omega)
    rw [show (2 : Nat) ^ 11 = 2048 by decide] at this
    rw [show ((n : Int) * 2048) = ((2048 * n : Nat) : Int) by omega, this]; omega
  have e3 : ∀ x y : Int, bor .i64 x y = bor .i64 y x := fun x y => by unfold bor; rw [BitVec.or_comm]
  rw [e b hb, e a ha, Option.bind_some, Option.bind_some, e2 a b ha hb, e3, e2 b a hb ha]
  exact ⟨rfl, by rw [Int.add_comm]⟩
theorem Zsa {a b : Int} (h1 : 0 ≤ a ∧ a ≤ 65535) (h2 : 0 ≤ b ∧ b ≤ 65535) : i64 (b % 2048 * 2048) = b % 2048 * 2048 ∧ i64 (a % 2048 + b % 2048 * 2048) = a % 2048 + b % 2048 * 2048 ∧ i64 a = a ∧ i64 b = b := ⟨Z7 (by omega) (by omega), Z7 (by omega) (by omega), Z7 (by omega) (by omega), Z7 (by omega) (by omega)⟩
theorem Zln {f : Vector Int 64} (h : fU f) : XF f = some (Za7 f) ∧ XB f = some (Za7 f) := by
  have v1 : ZA f 1 = some (wd f 1) := Z8 f (i := 1) (by decide)
  have v2 : ZA f 2 = some (wd f 2) := Z8 f (i := 2) (by decide)
  obtain ⟨e1, e2, e3, e4⟩ := Zsa (h 1) (h 2)
  refine ⟨?_, ?_⟩
  · unfold XF Za7
    rw [v1, Option.bind_some, ZfH (h 1), Option.bind_some, v2, Option.bind_some, ZfH (h 2), Option.bind_some, (Zqw (by omega) (by omega)).1]
  · unfold XB Za7
    rw [v1, Option.bind_some, e3, Zfm (h 1).1 _ (by decide), Option.bind_some, v2, Option.bind_some, e4, Zfm (h 2).1 _ (by decide), Option.bind_some, e1, e2]
def ZcQ (f : Vector Int 64) : Nat → Int
  | 0 => 0
  | k + 1 => ZcI .i64 (ZcQ f k) (wd f (k + 1) % 2048)
theorem ZlU {f : Vector Int 64} (h : fU f) : JX f = some (ZcQ f 60) ∧ Zb1 f = some (ZcQ f 60) := by
  constructor
  · have := Zdr (body := JF f) (ZcQ f) (ZcQ f 60) (a := 0) (b := 60) (by decide) (fun k _ hk => by
      have hw := h (k + 1)
      unfold JF
      rw [if_pos (by simp; omega), Z7 (by omega) (by omega), show (k : Int) + 1 = ((k + 1 : Nat) : Int) by push_cast; rfl, Z8 f (by omega), Option.bind_some, ZfH hw, Option.bind_some]
      rfl) (by unfold JF; rw [if_neg (by decide)])
    unfold JX
    rw [show ((0 : Int), (0 : Int)) = (ZcQ f 0, ((0 : Nat) : Int)) from rfl, this]
    rfl
  · have := Zdr (body := Zbg f) (fun k => ZcQ f (k - 1)) (ZcQ f 60) (a := 1) (b := 61) (by decide) (fun k h1 hk => by
      have hw := h k
      obtain ⟨j, rfl⟩ : ∃ j, k = j + 1 := ⟨k - 1, by omega⟩
      unfold Zbg
      rw [if_pos (by simp; omega), Z8 f (by omega), Option.bind_some, Z7 (by omega) (by omega), Zfm hw.1 _ (by decide), Option.bind_some, Z7 (by omega) (by omega)]
      rfl) (by unfold Zbg; rw [if_neg (by decide)])
    unfold Zb1
    rw [show ((0 : Int), (1 : Int)) = ((fun k => ZcQ f (k - 1)) 1, ((1 : Nat) : Int)) from rfl, this]
    rfl
theorem Znq (f : Vector Int 64) : ∀ k, 0 ≤ ZcQ f k ∧ ZcQ f k < 2048
  | 0 => ⟨Int.le_refl 0, by show (0 : Int) < 2048; decide⟩
  | k + 1 => by
    have ih := Znq f k
    obtain ⟨a, ha⟩ : ∃ n : Nat, ZcQ f k = n := ⟨(ZcQ f k).toNat, by omega⟩
    obtain ⟨b, hb⟩ : ∃ n : Nat, wd f (k + 1) % 2048 = n := ⟨(wd f (k + 1) % 2048).toNat, by omega⟩
    rw [ZcQ, hb, ha, ZlJ (by omega) (by omega)]
    have : a ^^^ b < 2 ^ 11 := Nat.xor_lt_two_pow (by omega) (by omega)
    omega
def ZdI (f : Vector Int 64) (j : Nat) : Bool := decide (j < 744) && decide (wd f (j / 12) / (2 : Int) ^ (11 - j % 12) % 2 = 1)
theorem Zqn (x : Int) {k : Nat} (hk : k ≤ 11) : shr .u16 x (k : Int) = some (x / (2 : Int) ^ k) := by
  unfold shr
  have hm : min ((k : Int)).toNat IntKind.u16.bits = k := by
    have : IntKind.u16.bits = 16 := rfl
    rw [Int.toNat_natCast]; omega
  have hp : (0 : Int) < 2 ^ k := Int.pow_pos (by decide)
  rw [if_neg (by omega), hm, Int.fdiv_eq_ediv_of_nonneg _ (by omega)]
theorem Zlu (x : Int) {k : Nat} (hk : k ≤ 11) : shr .i64 x (k : Int) = some (x / (2 : Int) ^ k) := by
  unfold shr
  have hm : min ((k : Int)).toNat IntKind.i64.bits = k := by
    have : IntKind.i64.bits = 64 := rfl
    rw [Int.toNat_natCast]; omega
  have hp : (0 : Int) < 2 ^ k := Int.pow_pos (by decide)
  rw [if_neg (by omega), hm, Int.fdiv_eq_ediv_of_nonneg _ (by omega)]
theorem Zrp {x : Int} (h : 0 ≤ x ∧ x ≤ 65535) (k : Nat) : 0 ≤ x / (2 : Int) ^ k ∧ x / (2 : Int) ^ k ≤ 65535 := by
  have hp : (0 : Int) < 2 ^ k := Int.pow_pos (by decide)
  have h1 := Int.ediv_nonneg h.1 (Int.le_of_lt hp)
  have h2 : x / (2 : Int) ^ k ≤ x := Int.ediv_le_self _ h.1
  omega
theorem Znb {x : Int} (h : 0 ≤ x ∧ x ≤ 65535) : Jq .u16 x 1 = x % 2 := by
  obtain ⟨n, rfl⟩ : ∃ n : Nat, x = n := ⟨x.toNat, by omega⟩
  have e0 : IntKind.u16.bits = 16 := rfl
  have e1 : (BitVec.ofInt 16 (n : Int)).toNat = n := by
    rw [BitVec.ofInt_natCast, BitVec.toNat_ofNat]; exact Nat.mod_eq_of_lt (by omega)
  have e2 : (BitVec.ofInt 16 1).toNat = 2 ^ 1 - 1 := rfl
  unfold Jq
  rw [e0, BitVec.toNat_and, e1, e2, Nat.and_two_pow_sub_one_eq_mod]
  have : n % 2 ^ 1 < 2 := Nat.mod_lt _ (by decide)
  simp only [IntKind.wrap, IntKind.signed, IntKind.bits]
  have e : (2 : Int) ^ 16 = 65536 := by decide
  simp [e]
  omega
theorem Zm5 (x : Int) : Jq .i64 x 1 = x % 2 := Zgu (v := x) (n := 1) (by decide)
def ckS (f : Vector Int 64) (k : Nat) : Int := ((pS (ZdI f) k).toNat : Int)
theorem ZoR (f : Vector Int 64) (j : Nat) : ckS f (j + 1) = if (!((!decide (Jq .i64 (ckS f j) 2097152 = 0)) == ZdI f j)) = true then ZcI .i64 (Jq .i64 (ckS f j * 2) 4194303) 2097167 else Jq .i64 (ckS f j * 2) 4194303 := by
  have := Zqj (pS (ZdI f) j) (ZdI f j)
  unfold ckS
  rw [pS, this, ZrV, Bool.not_not, Zru, Zsi]
  split <;> rfl
theorem Zk8 {f : Vector Int 64} (h : fU f) : XU f = some (ckS f 744) := by
  have inner : ∀ i : Nat, i < 62 → loop (t2 (Xt f (i : Int))) (ckS f (12 * i), 11) = some (ckS f (12 * (i + 1))) := fun i hi => by
    have hw := h i
    have := ZpY (body := Xt f (i : Int)) (fun j => ckS f (12 * i + j)) (ckS f (12 * (i + 1))) (b := 12) (fun k hk => by
      have hd := Zrp hw k
      have hv := (pS (ZdI f) (12 * i + (12 - 1 - k))).isLt
      unfold Xt
      have e1 : shl .i64 (ckS f (12 * i + (12 - 1 - k))) 1 = some (ckS f (12 * i + (12 - 1 - k)) * 2) := ZrC _
      rw [if_pos (by simp), e1, Option.bind_some, Z8 f (by omega), Option.bind_some, Zqn _ (by omega), Option.bind_some, Znb hd, Z7 (by omega) (by omega)]
      have eb : ZdI f (12 * i + (12 - 1 - k)) = decide (wd f i / (2 : Int) ^ k % 2 = 1) := by
        unfold ZdI
        rw [decide_eq_true (show 12 * i + (12 - 1 - k) < 744 by omega), Bool.true_and, show (12 * i + (12 - 1 - k)) / 12 = i by omega, show 11 - (12 * i + (12 - 1 - k)) % 12 = k by omega]
      have := ZoR f (12 * i + (12 - 1 - k))
      rw [eb] at this
      rw [show 12 * i + (12 - k) = 12 * i + (12 - 1 - k) + 1 by omega, this]
      split <;> rfl) (by unfold Xt; rw [if_neg (by decide)]; rw [show 12 * (i + 1) = 12 * i + 12 by omega])
    exact this
  have := Zdr (body := XR f) (fun i => ckS f (12 * i)) (ckS f 744) (a := 0) (b := 62) (by decide) (fun k _ hk => by
    unfold XR
    rw [if_pos (by simp; omega), inner k hk, Option.bind_some, QN, Z7 (by omega) (by omega)]) (by unfold XR; rw [if_neg (by decide)])
  unfold XU
  have e0 : ((0 : Int), (0 : Int)) = ((fun i => ckS f (12 * i)) 0, ((0 : Nat) : Int)) := rfl
  rw [e0, this]
  rfl
def rkS (f : Vector Int 64) (k : Nat) : Int := ((rS (ZdI f) k).toNat : Int)
theorem ZpA {f : Vector Int 64} (h : fU f) : J8 f = some (ckS f 744) := by
  have hfin : rkS f 766 = ckS f 744 := by
    unfold rkS ckS
    rw [show 766 = 744 + 22 from rfl, ZqR (fun k hk => by unfold ZdI; rw [decide_eq_false (by omega), Bool.false_and])]
  have := Zdr (body := Zad f) (rkS f) (ckS f 744) (a := 0) (b := 766) (by decide) (fun k _ hk => by
    have hv := (rS (ZdI f) k).isLt
    have hb : ((if (decide ((k : Int) < 744)) = true then (quo .i64 (k : Int) 12).bind fun q => (ZA f q).bind fun x => (rem (k : Int) 12).bind fun q2 => (shr .i64 (i64 x) (i64 (11 - q2))).bind fun q3 => some (Jq .i64 q3 1) else some 0) : Option Int) = some ((ZdI f k).toNat : Int) := by
      by_cases hk2 : k < 744
      · have hw := h (k / 12)
        rw [if_pos (by simp; omega)]
        have e1 : quo .i64 (k : Int) 12 = some ((k / 12 : Nat) : Int) := by
          unfold quo
          rw [if_neg (by decide), Int.tdiv_eq_ediv_of_nonneg (by omega), w64 (by omega) (by omega)]
          rfl
        rw [e1, Option.bind_some, Z8 f (by omega), Option.bind_some, Zfm (by omega) _ (by decide), Option.bind_some, Z7 (by omega) (by omega)]
        have e2 : i64 (11 - (k : Int) % 12) = ((11 - k % 12 : Nat) : Int) := by rw [Z7 (by omega) (by omega)]; omega
        rw [e2, Zlu _ (by omega), Option.bind_some, Zm5]
        unfold ZdI
        rw [decide_eq_true hk2, Bool.true_and]
        generalize wd f (k / 12) / (2 : Int) ^ (11 - k % 12) = z
        by_cases hz : z % 2 = 1
        · rw [decide_eq_true hz, hz]; rfl
        · rw [decide_eq_false hz, show z % 2 = 0 by omega]; rfl
      · rw [if_neg (by simp; omega)]
        unfold ZdI
        rw [decide_eq_false hk2, Bool.false_and]; rfl
    unfold Zad
    rw [if_pos (by simp; omega), hb, Option.bind_some, QN]
    have hbl : (ZdI f k).toNat ≤ 1 := by cases ZdI f k <;> decide
    have hs := ZpZ (rS (ZdI f) k) (ZdI f k)
    simp only at hs
    have er : i64 (i64 (rkS f k * 2) + ((ZdI f k).toNat : Int)) = ((2 * (rS (ZdI f) k).toNat + (ZdI f k).toNat : Nat) : Int) := by
      unfold rkS
      rw [Z7 (z := ((rS (ZdI f) k).toNat : Int) * 2) (by omega) (by omega), Z7 (by omega) (by omega)]; push_cast; omega
    have en : rkS f (k + 1) = ((zS (rS (ZdI f) k) ^^^ (if ZdI f k then 1#22 else 0#22)).toNat : Int) := rfl
    rw [er, en, ← hs, Z7 (z := (k : Int) + 1) (by omega) (by omega)]
    by_cases hc : 4194304 ≤ 2 * (rS (ZdI f) k).toNat + (ZdI f k).toNat
    · rw [if_pos (by simp; omega), if_pos hc, show (6291471 : Int) = ((6291471 : Nat) : Int) from rfl, ZlJ (by omega) (by omega)]
    · rw [if_neg (by simp; omega), if_neg hc]) (by unfold Zad; rw [if_neg (by decide), hfin])
  unfold J8
  rw [show ((0 : Int), (0 : Int)) = (rkS f 0, ((0 : Nat) : Int)) from rfl, this]
  rfl
end Go.Vx

namespace Go.Vx
open Go Go.RowKit
theorem Zi5 {ρ : Type} {body : Int → Option (Int ⊕ ρ)} (P : Nat → Bool) (A Z : ρ) {a b : Nat} (hab : a ≤ b)
    (hstep : ∀ k : Nat, a ≤ k → k < b → body (k : Int) = if P k = true then some (.inl ((k : Int) + 1)) else some (.inr A)) (hend : body (b : Int) = some (.inr Z)) :
    loop (t1 body) (a : Int) = some (cond ((List.range' a (b - a)).all P) Z A) := by
  refine Zdv (body := t1 body) (fun i => ∃ k : Nat, i = k ∧ a ≤ k ∧ k ≤ b) (fun i => b - i.toNat) (fun i => cond ((List.range' i.toNat (b - i.toNat)).all P) Z A) ?_ (a : Int) ⟨a, rfl, Nat.le_refl _, hab⟩
  rintro i ⟨k, rfl, h1, h2⟩
  simp only [Int.toNat_natCast, QN]
  rcases Nat.lt_or_ge k b with h | h
  · rw [hstep k h1 h]
    obtain ⟨n, hn⟩ : ∃ n, b - k = n + 1 := ⟨b - k - 1, by omega⟩
    rw [hn, List.range'_succ, List.all_cons]
    cases hp : P k
    · right; simp
    · left
      refine ⟨_, by rw [if_pos rfl], ⟨k + 1, by push_cast; rfl, by omega, h⟩, by omega, ?_⟩
      rw [show ((k : Int) + 1).toNat = k + 1 by omega, show b - (k + 1) = n by omega, Bool.true_and]
  · obtain rfl : k = b := by omega
    right
    rw [hend]; simp
def flL (P : Nat → Bool) (c : Int) (a n : Nat) : List api_Flaw := ((List.range' a n).filter fun k => !P k).map fun (k : Nat) => api_Flaw.mk (k : Int) c
theorem Zmg (P : Nat → Bool) (c : Int) (a n : Nat) : flL P c a (n + 1) = flL P c a n ++ (if P (a + n) = true then [] else [api_Flaw.mk ((a + n : Nat) : Int) c]) := by
  unfold flL
  rw [List.range'_1_concat, List.filter_append, List.map_append]
  congr 1
  cases h : P (a + n) <;> simp [h]
theorem ZlM (P : Nat → Bool) (c : Int) (a : Nat) : ∀ n, (flL P c a n).length ≤ n
  | 0 => by simp [flL]
  | n + 1 => by
    have := ZlM P c a n
    rw [Zmg, List.length_append]; split <;> simp <;> omega
theorem Zlm (P : Nat → Bool) (c : Int) (a n : Nat) : (flL P c a n).length = 0 ↔ (List.range' a n).all P = true := by
  unfold flL
  rw [List.length_map, List.length_eq_zero_iff, List.filter_eq_nil_iff, List.all_eq_true]
  exact ⟨fun h x hx => by have := h x hx; simpa using this, fun h x hx => by rw [h x hx]; decide⟩
theorem ZnB {body : List api_Flaw → Int → Option ((List api_Flaw × Int) ⊕ List api_Flaw)} (P : Nat → Bool) (c : Int) {a b : Nat} (hab : a ≤ b) (l0 : List api_Flaw) (hl : l0.length ≤ 1000) (hb : b ≤ 1000)
    (hstep : ∀ (l : List api_Flaw) (k : Nat), l.length ≤ 2000 → a ≤ k → k < b → body l (k : Int) = if P k = true then some (.inl (l, (k : Int) + 1)) else some (.inl (l ++ [api_Flaw.mk (k : Int) c], (k : Int) + 1)))
    (hend : ∀ l, body l (b : Int) = some (.inr l)) : loop (t2 body) (l0, (a : Int)) = some (l0 ++ flL P c a (b - a)) := by
  have := Zdr (body := body) (fun k => l0 ++ flL P c a (k - a)) (l0 ++ flL P c a (b - a)) (a := a) (b := b) hab (fun k h1 h2 => by
    have hlen := ZlM P c a (k - a)
    rw [hstep _ k (by rw [List.length_append]; omega) h1 h2, show k + 1 - a = k - a + 1 by omega, Zmg, show a + (k - a) = k by omega]
    cases P k <;> simp) (hend _)
  have e : (fun k => l0 ++ flL P c a (k - a)) a = l0 := by simp [flL]
  simp only at e
  rw [e] at this
  exact this
noncomputable def Zrt (n : Nat) : Bool := decide (Zat (n : Int) = Zda (n : Int)) && (Zda (n : Int)).isSome
theorem Zqb : (List.range 4096).all Zrt = true := by decide +kernel
noncomputable def Zcf (x : Int) : Bool := (Zda x).getD false
theorem Zkx {x : Int} (h : 0 ≤ x ∧ x ≤ 4095) : Zat x = some (Zcf x) ∧ ZcG x = some (Zcf x) := by
  obtain ⟨n, rfl⟩ : ∃ n : Nat, x = n := ⟨x.toNat, by omega⟩
  have := List.all_eq_true.1 Zqb n (List.mem_range.2 (by omega))
  simp only [Zrt, Bool.and_eq_true, decide_eq_true_eq] at this
  obtain ⟨h2, h3⟩ := this
  obtain ⟨b, hb⟩ := Option.isSome_iff_exists.1 h3
  unfold Zcf
  rw [hb]
  exact ⟨h2.trans hb, Zje _ b hb⟩
def Za8 (f : Vector Int 64) (k : Nat) : Bool := decide (wd f k ≤ 4095)
def Zb8 (f : Vector Int 64) : Bool := (List.range' 0 64).all (Za8 f)
theorem Zk2 {f : Vector Int 64} (h : Zb8 f = true) (k : Nat) (hk : k < 64) : wd f k ≤ 4095 := by
  have := List.all_eq_true.1 h k (List.mem_range'.2 ⟨k, hk, by omega⟩)
  simpa [Za8] using this
theorem Zpy (f : Vector Int 64) : Zbd f = some (!Zb8 f) := by
  have := Zi5 (body := J5 f) (Za8 f) (.inl true : Bool ⊕ Unit) (.inr ()) (a := 0) (b := 64) (by decide) (fun k _ hk => by
    unfold J5 Za8
    rw [if_pos (by simp; omega), Z8 f hk, Option.bind_some, Z7 (by omega) (by omega)]
    by_cases hw : 4095 < wd f k
    · rw [if_pos (by simpa using hw), if_neg (by simpa using hw)]
    · rw [if_neg (by simpa using hw), if_pos (by simpa using hw)]) (by unfold J5; rw [if_neg (by decide)])
  unfold Zbd
  have e0 : (0 : Int) = ((0 : Nat) : Int) := rfl
  rw [e0, this]
  unfold Zb8
  rw [Nat.sub_zero]
  cases (List.range' 0 64).all (Za8 f) <;> rfl
def Xa (n : Int) : Int := gv_frame_syncs.toList.getD (n % 4).toNat 0
theorem Zfw {n : Int} (h : 0 ≤ n) : rem n 4 = some (n % 4) ∧ ZA gv_frame_syncs (n % 4) = some (Xa n) := by
  refine ⟨Zfm h _ (by decide), ?_⟩
  unfold ZA Xa
  rw [if_pos (by omega)]
  obtain ⟨x, hx⟩ := ZT (xs := gv_frame_syncs.toList) (k := (n % 4).toNat) (by simp; omega)
  rw [List.getD_eq_getElem?_getD, hx]; rfl
theorem Zj2 {n : Int} (h : 0 ≤ n) : Jk n = some (Xa n) := by
  unfold Jk
  have := (Zfw h).2
  unfold gv_frame_syncs at this
  rw [(Zfw h).1, Option.bind_some, this, Option.bind_some]
noncomputable def ZkL (f : Vector Int 64) (k : Nat) : Bool := Zcf (wd f k)
def ckW (f : Vector Int 64) : Int := wd f 62 % 2048 * 2048 + wd f 63 % 2048
noncomputable def ZgM (f : Vector Int 64) : Bool := Zb8 f && (decide (wd f 0 = Xa (Za7 f)) && (decide (wd f 61 % 2048 = ZcQ f 60) && ((List.range' 1 63).all (ZkL f) && decide (ckW f = ckS f 744))))
theorem Znr {f : Vector Int 64} (h : fU f) : ZaE f = some (ZgM f) := by
  unfold ZaE
  rw [Zpy, Option.bind_some]
  cases hn : Zb8 f
  · unfold ZgM
    rw [hn]
    simp [gd]
  · have hnb := ZjH f
    have h0 := h 0
    have v0 : ZA f 0 = some (wd f 0) := Z8 f (i := 0) (by decide)
    have v61 : ZA f 61 = some (wd f 61) := Z8 f (i := 61) (by decide)
    have v62 : ZA f 62 = some (wd f 62) := Z8 f (i := 62) (by decide)
    have v63 : ZA f 63 = some (wd f 63) := Z8 f (i := 63) (by decide)
    have ck := ckW f
    have e0 : ((!true) == false) = true := rfl
    have ob : 0 ≤ wd f 62 % 2048 ∧ wd f 62 % 2048 < 2048 := by omega
    have oc : 0 ≤ wd f 63 % 2048 ∧ wd f 63 % 2048 < 2048 := by omega
    rw [e0, Zdm, v0, Option.bind_some, Zdm, (Zln h).1, Option.bind_some, Zdm, (Zfw hnb.1).1, Option.bind_some, Zdm, (Zfw hnb.1).2, Option.bind_some]
    unfold ZgM
    rw [hn, Bool.not_true, Bool.false_or, Bool.true_and]
    by_cases hs : wd f 0 = Xa (Za7 f)
    · have e1 : decide (wd f 0 = Xa (Za7 f)) = true := decide_eq_true hs
      rw [e1, Bool.not_true, show (false == false) = true from rfl, Zdm, v61, Option.bind_some, Zdm, ZfH (h 61), Option.bind_some, Zdm, (ZlU h).1, Option.bind_some, Bool.false_or, Bool.true_and]
      by_cases hs2 : wd f 61 % 2048 = ZcQ f 60
      · rw [if_neg (by simp [hs2]), decide_eq_true hs2, Bool.true_and]
        have := Zi5 (body := Jv f) (ZkL f) (.inl false : Bool ⊕ Unit) (.inr ()) (a := 1) (b := 64) (by decide) (fun k _ hk => by
          unfold Jv ZkL
          have := Zk2 hn k hk
          rw [if_pos (by simp; omega), Z8 f hk, Option.bind_some, (Zkx ⟨(h k).1, this⟩).1, Option.bind_some, Z7 (by omega) (by omega)]
          cases Zcf (wd f k) <;> rfl) (by unfold Jv; rw [if_neg (by decide)])
        have e1 : (1 : Int) = ((1 : Nat) : Int) := rfl
        rw [e1, this, Option.bind_some]
        rw [show 64 - 1 = 63 from rfl]
        cases (List.range' 1 63).all (ZkL f)
        · rfl
        · rw [Bool.true_and]
          show (ZA f 62).bind _ = _
          rw [v62, Option.bind_some, ZfH (h 62), Option.bind_some]
          unfold ckW
          have eb := (Zqw ob oc).2
          obtain ⟨q, hq, hq2⟩ : ∃ q, shl .i64 (wd f 62 % 2048) 11 = some q ∧ bor .i64 q (wd f 63 % 2048) = wd f 62 % 2048 * 2048 + wd f 63 % 2048 := by
            cases hh : shl .i64 (wd f 62 % 2048) 11 with
            | none => rw [hh] at eb; cases eb
            | some q => rw [hh, Option.bind_some] at eb; exact ⟨q, rfl, Option.some.inj eb⟩
          rw [hq, Option.bind_some, v63, Option.bind_some, ZfH (h 63), Option.bind_some, Zk8 h, Option.bind_some, hq2]
      · rw [if_pos (by simp [hs2]), decide_eq_false hs2, Bool.false_and]
    · rw [decide_eq_false hs]
      simp [gd]
theorem Znj {f : Vector Int 64} (h : fU f) : ZaH f = some (ZgM f) := by
  unfold ZaH
  rw [Znr h, Option.bind_some]
def Zf2 (b : Bool) (i c : Int) : List api_Flaw := if b = true then [] else [api_Flaw.mk i c]
noncomputable def ZqX (f : Vector Int 64) : List api_Flaw :=
  if Zb8 f = true then ((Zf2 (decide (wd f 0 = Xa (Za7 f))) 0 1 ++ flL (ZkL f) 2 1 63) ++ Zf2 (decide (wd f 61 % 2048 = ZcQ f 60)) 61 3) ++ Zf2 (decide (ckW f = ckS f 744)) 62 4
  else flL (Za8 f) 5 0 64
theorem Zfc (b : Bool) (i c : Int) : (Zf2 b i c).length ≤ 1 ∧ ((Zf2 b i c).length = 0 ↔ b = true) := by cases b <;> simp [Zf2]
theorem Zql {f : Vector Int 64} (h : fU f) : Zev f = some (ZqX f) := by
  have hl1 := ZnB (body := ZbX f) (Za8 f) 5 (a := 0) (b := 64) (by decide) [] (by decide) (by decide) (fun l k hl _ hk => by
    unfold ZbX Za8
    rw [if_pos (by simp; omega), Z8 f hk, Option.bind_some, Z7 (by omega) (by omega)]
    by_cases hw : 4095 < wd f k
    · rw [if_pos (by simpa using hw), if_neg (by simpa using hw), XP (by simp; omega), Option.bind_some]
    · rw [if_neg (by simpa using hw), if_pos (by simpa using hw)]) (fun l => by unfold ZbX; rw [if_neg (by decide)])
  unfold Zev
  have e0 : (([] : List api_Flaw), (0 : Int)) = ([], ((0 : Nat) : Int)) := rfl
  rw [e0, hl1, Option.bind_some, QN, List.nil_append, Nat.sub_zero]
  have hz := Zlm (Za8 f) 5 0 64
  unfold ZqX
  cases hn : Zb8 f
  · have : ¬ (flL (Za8 f) 5 0 64).length = 0 := fun hc => by rw [hz.1 hc |> fun e => (show Zb8 f = true from e)] at hn; cases hn
    rw [if_pos (by simp only [decide_eq_true_eq]; omega), if_neg (by decide)]
  · have hz0 : (flL (Za8 f) 5 0 64).length = 0 := hz.2 hn
    have hnil : flL (Za8 f) 5 0 64 = [] := List.length_eq_zero_iff.1 hz0
    have hnb := ZjH f
    have v0 : ZA f 0 = some (wd f 0) := Z8 f (i := 0) (by decide)
    have v61 : ZA f 61 = some (wd f 61) := Z8 f (i := 61) (by decide)
    have v62 : ZA f 62 = some (wd f 62) := Z8 f (i := 62) (by decide)
    have v63 : ZA f 63 = some (wd f 63) := Z8 f (i := 63) (by decide)
    have w0 := h 0
    have w61 := h 61
    have w62 := h 62
    have w63 := h 63
    rw [hnil, if_neg (by decide), v0, Option.bind_some, (Zln h).2, Option.bind_some, Zj2 hnb.1, Option.bind_some, Z7 (z := wd f 0) (by omega) (by omega)]
    have s1 : (if (!decide (wd f 0 = Xa (Za7 f))) = true then (app ([] : List api_Flaw) ([(api_Flaw.mk 0 1)] : List api_Flaw)).bind fun l2 => some l2 else some []) = some (Zf2 (decide (wd f 0 = Xa (Za7 f))) 0 1) := by
      by_cases hs : wd f 0 = Xa (Za7 f) <;> simp [hs, Zf2, app]
    rw [s1, Option.bind_some, QN]
    have hl2 := ZnB (body := ZbW f) (ZkL f) 2 (a := 1) (b := 64) (by decide) (Zf2 (decide (wd f 0 = Xa (Za7 f))) 0 1) (by have := (Zfc (decide (wd f 0 = Xa (Za7 f))) 0 1).1; omega) (by decide) (fun l k hl _ hk => by
      unfold ZbW ZkL
      have hw := h k
      rw [if_pos (by simp; omega), Z8 f hk, Option.bind_some, Z7 (z := wd f k) (by omega) (by omega), (Zkx ⟨hw.1, Zk2 hn k hk⟩).2, Option.bind_some, Z7 (by omega) (by omega)]
      cases Zcf (wd f k)
      · rw [if_pos (by decide), XP (by simp; omega), Option.bind_some]; rfl
      · rfl) (fun l => by unfold ZbW; rw [if_neg (by decide)])
    have e1 : (1 : Int) = ((1 : Nat) : Int) := rfl
    have e2 : (Zf2 (decide (wd f 0 = Xa (Za7 f))) 0 1, (1 : Int)) = (Zf2 (decide (wd f 0 = Xa (Za7 f))) 0 1, ((1 : Nat) : Int)) := rfl
    rw [e2, hl2, Option.bind_some, QN, show 64 - 1 = 63 from rfl]
    have b1 := (Zfc (decide (wd f 0 = Xa (Za7 f))) 0 1).1
    have b2 := ZlM (ZkL f) 2 1 63
    have b3 := (Zfc (decide (wd f 61 % 2048 = ZcQ f 60)) 61 3).1
    generalize hX : Zf2 (decide (wd f 0 = Xa (Za7 f))) 0 1 ++ flL (ZkL f) 2 1 63 = X
    have bX : X.length ≤ 64 := by rw [← hX, List.length_append]; omega
    rw [v61, Option.bind_some, Z7 (z := wd f 61) (by omega) (by omega), Zfm w61.1 _ (by decide), Option.bind_some, (ZlU h).2, Option.bind_some]
    have s2 : (if (!decide (wd f 61 % 2048 = ZcQ f 60)) = true then (app X ([(api_Flaw.mk 61 3)] : List api_Flaw)).bind fun l4 => some l4 else some X) = some (X ++ Zf2 (decide (wd f 61 % 2048 = ZcQ f 60)) 61 3) := by
      by_cases hs : wd f 61 % 2048 = ZcQ f 60
      · simp [hs, Zf2]
      · rw [XP (by simp; omega)]; simp [hs, Zf2]
    rw [s2, Option.bind_some, QN]
    generalize hW : X ++ Zf2 (decide (wd f 61 % 2048 = ZcQ f 60)) 61 3 = W
    have bW : W.length ≤ 65 := by rw [← hW, List.length_append]; omega
    rw [v62, Option.bind_some, Z7 (z := wd f 62) (by omega) (by omega), Zfm w62.1 _ (by decide), Option.bind_some, v63, Option.bind_some, Z7 (z := wd f 63) (by omega) (by omega), Zfm w63.1 _ (by decide), Option.bind_some, ZpA h, Option.bind_some]
    rw [Z7 (z := wd f 62 % 2048 * 2048) (by omega) (by omega), Z7 (z := wd f 62 % 2048 * 2048 + wd f 63 % 2048) (by omega) (by omega)]
    unfold ckW
    by_cases hs : wd f 62 % 2048 * 2048 + wd f 63 % 2048 = ckS f 744
    · simp [hs, Zf2]
    · rw [XP (by simp; omega)]; simp [hs, Zf2]
theorem Zkg {f : Vector Int 64} (h : fU f) : Zcd f = some (ZgM f) := by
  unfold Zcd
  rw [Zql h, Option.bind_some]
  congr 1
  unfold ZqX ZgM
  cases hn : Zb8 f
  · have hz := Zlm (Za8 f) 5 0 64
    have : ¬ (flL (Za8 f) 5 0 64).length = 0 := fun hc => by rw [hz.1 hc |> fun e => (show Zb8 f = true from e)] at hn; cases hn
    rw [if_neg (by decide), Bool.false_and, decide_eq_false_iff_not]; omega
  · rw [if_pos rfl, Bool.true_and, Bool.eq_iff_iff, decide_eq_true_eq]
    simp only [List.length_append, Bool.and_eq_true]
    have b1 := (Zfc (decide (wd f 0 = Xa (Za7 f))) 0 1).2
    have b2 := Zlm (ZkL f) 2 1 63
    have b3 := (Zfc (decide (wd f 61 % 2048 = ZcQ f 60)) 61 3).2
    have b4 := (Zfc (decide (ckW f = ckS f 744)) 62 4).2
    rw [← b1, ← b2, ← b3, ← b4]
    omega
end Go.Vx

namespace Go.Vx
open Go Go.RowKit
theorem ZlD {Z : List Int} (h : hL Z) (k : Nat) : 0 ≤ Z.getD k 0 ∧ Z.getD k 0 ≤ 15 := by
  rw [List.getD_eq_getElem?_getD]
  cases hq : Z[k]? with
  | none => simp
  | some x => exact h x (List.mem_of_getElem? hq)
end Go.Vx

namespace Go.Vx
open Go Go.RowKit
theorem ZrR {α : Type} {l : List α} {a b : Nat} (h1 : a ≤ b) (h2 : b ≤ l.length) : slc l (a : Int) (b : Int) = some ((l.take b).drop a) := by
  unfold slc
  rw [if_pos (by omega)]
  simp
end Go.Vx

namespace Go.Vx
open Go Go.RowKit
def ZrT {ε ρ : Type} (A : ε → ρ) (Z : ρ) : Option ε → ρ
  | some e => A e
  | none => Z
theorem ZiO {τ ρ ε : Type} {body : τ → Option (τ ⊕ ρ)} (S : Nat → τ) (P : Nat → Option ε) (A : ε → ρ) (Z : ρ) {b : Nat}
    (hstep : ∀ k, k < b → (∃ e, P k = some e ∧ body (S k) = some (.inr (A e))) ∨ (P k = none ∧ body (S k) = some (.inl (S (k + 1))))) (hend : body (S b) = some (.inr Z)) :
    loop body (S 0) = some (ZrT A Z ((List.range' 0 b).findSome? P)) := by
  have key : ∀ n k, k + n = b → loop body (S k) = some (ZrT A Z ((List.range' k n).findSome? P)) := by
    intro n
    induction n with
    | zero =>
      intro k hk
      obtain rfl : k = b := by omega
      rw [ZjM, hend]; rfl
    | succ n ih =>
      intro k hk
      rw [ZjM, List.range'_succ, List.findSome?_cons]
      rcases hstep k (by omega) with ⟨e, h1, h2⟩ | ⟨h1, h2⟩
      · rw [h1, h2]; rfl
      · rw [h1, h2]
        exact ih (k + 1) (by omega)
  exact key b 0 (by omega)
theorem Zhs {ε : Type} {P : Nat → Option ε} {b : Nat} (h : (List.range' 0 b).findSome? P = none) (k : Nat) (hk : k < b) : P k = none :=
  List.findSome?_eq_none_iff.1 h k (List.mem_range'.2 ⟨k, hk, by omega⟩)
theorem Zna (v : Vector Int 64) (g : Int → Bool) : v.toList.any g = true ↔ ∃ i, i < 64 ∧ g (wd v i) = true := by
  rw [List.any_eq_true]
  constructor
  · rintro ⟨x, hx, hg⟩
    obtain ⟨i, hi⟩ := List.getElem?_of_mem hx
    refine ⟨i, by have := (List.getElem?_eq_some_iff.1 hi).1; simpa using this, ?_⟩
    unfold wd
    rw [Jf hi]; exact hg
  · rintro ⟨i, hi, hg⟩
    obtain ⟨x, hx⟩ := ZT (xs := v.toList) (k := i) (by simp; omega)
    unfold wd at hg
    rw [Jf hx] at hg
    exact ⟨x, List.mem_of_getElem? hx, hg⟩
theorem Zlb (s : List Int) (hs : s.length ≤ 1000000) (g : Int → Bool) : Qa s (fun z0 => some (g z0)) = some (s.any g) := by
  have := ZiO (body := t1 (Z9 s (fun z0 => some (g z0)))) (fun k => (k : Int)) (fun k => if g (s.getD k 0) = true then some (k : Int) else none) (fun e => (.inl e : Int ⊕ Unit)) (.inr ()) (b := s.length) (fun k hk => by
    obtain ⟨x, hx⟩ := ZT hk
    have eb : Z9 s (fun z0 => some (g z0)) (k : Int) = if g x = true then some (.inr (.inl (k : Int))) else some (.inl ((k : Int) + 1)) := by
      unfold Z9
      rw [if_pos (by simp; omega), Z2 hx, Option.bind_some, Option.bind_some, Z7 (by omega) (by omega)]
    rw [QN, eb, Jf hx]
    by_cases hg : g x = true
    · exact .inl ⟨_, by rw [if_pos hg], by rw [if_pos hg]⟩
    · exact .inr ⟨by rw [if_neg hg], by rw [if_neg hg]; push_cast; rfl⟩) (by
    rw [QN]
    unfold Z9
    rw [if_neg (by simp)])
  have e0 : (0 : Int) = ((0 : Nat) : Int) := rfl
  unfold Qa QQ
  rw [e0, this, Option.bind_some]
  cases hf : (List.range' 0 s.length).findSome? (fun k => if g (s.getD k 0) = true then some (k : Int) else none) with
  | none =>
    show (some (-1 : Int)).bind _ = _
    rw [Option.bind_some]
    have : s.any g = false := by
      rw [List.any_eq_false]
      intro x hx hg
      obtain ⟨i, hi⟩ := List.getElem?_of_mem hx
      have := Zhs hf i (List.getElem?_eq_some_iff.1 hi).1
      rw [Jf hi, if_pos hg] at this
      cases this
    rw [this]; rfl
  | some e =>
    show (some (e : Int)).bind _ = _
    rw [Option.bind_some]
    obtain ⟨k, hk, hke⟩ := List.exists_of_findSome?_eq_some hf
    have hk2 : k < s.length := by obtain ⟨j, hj, rfl⟩ := List.mem_range'.1 hk; omega
    obtain ⟨x, hx⟩ := ZT hk2
    split at hke
    · rename_i hg
      cases hke
      rw [Jf hx] at hg
      have : s.any g = true := List.any_eq_true.2 ⟨x, List.mem_of_getElem? hx, hg⟩
      rw [this, decide_eq_true (by omega)]
    · cases hke
theorem Zqz (v : Vector Int 64) : slc v.toList 0 (64 : Int) = some v.toList := by
  have := ZrR (l := v.toList) (a := 0) (b := 64) (by omega) (by simp)
  rw [show ((64 : Nat) : Int) = 64 from rfl, show ((0 : Nat) : Int) = 0 from rfl] at this
  rw [this, List.drop_zero, List.take_of_length_le (by simp)]
theorem Zrl (r : api_Rest) (a b : Int) : ZaJ r a b = some (r.States.toList.any fun s => decide (s = a) || decide (s = b)) := by
  unfold ZaJ
  rw [Zqz, Option.bind_some]
  have := Zlb r.States.toList (by simp) (fun s => decide (s = a) || decide (s = b))
  unfold Zay
  rw [this]; rfl
theorem Zpc (r : api_Rest) (a : Int) : Jj r a = some (!r.States.toList.any fun s => !decide (s = a)) := by
  unfold Jj
  rw [Zqz, Option.bind_some]
  have := Zlb r.States.toList (by simp) (fun s => !decide (s = a))
  unfold Za0
  rw [this]; rfl
noncomputable def Ze8 (f : Vector Int 64) : Int × Bool := if (Zcf (wd f 1) && Zcf (wd f 2)) = true then (Za7 f, true) else (0, false)
theorem Zh9 {f : Vector Int 64} (h : fU f) (h1 : wd f 1 ≤ 4095) (h2 : wd f 2 ≤ 4095) : Ji f = some (Ze8 f) ∧ Zcw f = some (Ze8 f) := by
  have w1 := h 1
  have w2 := h 2
  have v1 : ZA f 1 = some (wd f 1) := Z8 f (i := 1) (by decide)
  have v2 : ZA f 2 = some (wd f 2) := Z8 f (i := 2) (by decide)
  obtain ⟨o1, o1'⟩ := Zkx (x := wd f 1) ⟨w1.1, h1⟩
  obtain ⟨o2, o2'⟩ := Zkx (x := wd f 2) ⟨w2.1, h2⟩
  obtain ⟨n1, n2⟩ := Zln h
  have right : ∀ x : Int, 0 ≤ x → x ≤ 4095 → ZcG x = some (Zcf x) → Zac x = some (Zcf x) := fun x a b e => by
    unfold Zac
    rw [decide_eq_true b, Zcu, Z7 (by omega) (by omega), e, Option.bind_some, Bool.true_and]
  have r1 := right _ w1.1 h1 o1'
  have r2 := right _ w2.1 h2 o2'
  unfold Ji Zcw Ze8
  rw [v1, v2, Option.bind_some, Option.bind_some, o1, r1, Option.bind_some, Option.bind_some, n1, n2]
  generalize Za7 f = n
  cases Zcf (wd f 1)
  · exact ⟨rfl, rfl⟩
  · simp only [Bool.not_true, Zdm, show (false == false) = true from rfl, Option.bind_some, o2, r2]
    cases Zcf (wd f 2)
    · exact ⟨rfl, rfl⟩
    · exact ⟨rfl, rfl⟩
noncomputable def ZmK (f : Vector Int 64) (n : Int) : Bool := ZgM f && decide ((Ze8 f).1 = n)
theorem Zk7 {f : Vector Int 64} (h : fU f) (h1 : wd f 1 ≤ 4095) (h2 : wd f 2 ≤ 4095) (n : Int) : Xj f n = some (ZmK f n) := by
  unfold Xj
  rw [(Zh9 h h1 h2).1, Option.bind_some, Znj h, Option.bind_some]; rfl
theorem Zif {f : Vector Int 64} (h : fU f) (h1 : wd f 1 ≤ 4095) (h2 : wd f 2 ≤ 4095) : X2 f = some (Ze8 f).1 := by
  unfold X2
  rw [(Zh9 h h1 h2).2, Option.bind_some]
end Go.Vx

namespace Go.Vx
open Go Go.RowKit
theorem Zfs {n : Int} (h : 0 ≤ n ∧ n ≤ 65535) : u16 n = n := by
  unfold u16 IntKind.wrap
  simp only [IntKind.signed, IntKind.bits]
  have e : (2 : Int) ^ 16 = 65536 := by decide
  simp [e]
  omega
def wAt (H : List Int) (k : Nat) : Int := w3 (H.getD k 0) (H.getD (k + 1) 0) (H.getD (k + 2) 0)
theorem Zq2 {H : List Int} (h : hL H) (k : Nat) : 0 ≤ wAt H k ∧ wAt H k ≤ 4095 := by
  have h1 := ZlD h k
  have h2 := ZlD h (k + 1)
  have h3 := ZlD h (k + 2)
  unfold wAt w3
  omega
theorem X6 (f : Vector Int 64) {k : Nat} (hk : k < 64) (x : Int) (i : Nat) : wd (Qp f (k : Int) x) i = if k = i then x else wd f i := by
  unfold wd
  rw [ZkZ, Int.toNat_natCast, List.getD_eq_getElem?_getD, List.getElem?_set, List.getD_eq_getElem?_getD]
  split
  · rw [if_pos (by simp; omega)]; rfl
  · rfl
def inH (H : List Int) (at_ : Int) (i : Nat) : Bool := decide (0 ≤ at_ + 3 * i ∧ at_ + 3 * i + 3 ≤ (H.length : Int))
def Zlt (H : List Int) (at_ : Int) (k : Nat) : Vector Int 64 × Vector Bool 64 := (List.range k).foldl (Zid H at_) (Vector.replicate 64 0, Vector.replicate 64 false)
theorem Znv (H : List Int) (at_ : Int) : ∀ (k : Nat), k ≤ 64 → ∀ i, wd (Zlt H at_ k).1 i = if (decide (i < k) && inH H at_ i) = true then wAt H (at_ + 3 * i).toNat else 0
  | 0, _, i => by
    rw [if_neg (by simp)]
    show (Vector.replicate 64 (0 : Int)).toList.getD i 0 = 0
    rw [Vector.toList_replicate, List.getD_eq_getElem?_getD, List.getElem?_replicate]; split <;> rfl
  | k + 1, hk, i => by
    have ih := Znv H at_ k (by omega) i
    have e : Zlt H at_ (k + 1) = Zid H at_ (Zlt H at_ k) k := Zca _ _ _
    rw [e]
    unfold Zid
    by_cases hc : 0 ≤ at_ + 3 * k ∧ at_ + 3 * k + 3 ≤ (H.length : Int)
    · rw [if_pos hc, X6 _ (by omega), ih]
      by_cases hik : k = i
      · subst hik
        rw [if_pos rfl, if_pos (by simp [inH]; omega)]; rfl
      · rw [if_neg hik]
        have : decide (i < k + 1) = decide (i < k) := by rw [decide_eq_decide]; omega
        rw [this]
    · rw [if_neg hc, ih]
      by_cases hik : k = i
      · subst hik
        rw [if_neg (by simp), if_neg (by simp [inH]; omega)]
      · have : decide (i < k + 1) = decide (i < k) := by rw [decide_eq_decide]; omega
        rw [this]
theorem ZqU (H : List Int) (at_ : Int) (i : Nat) (hi : i < 64) : wd (frW H at_).1 i = if inH H at_ i = true then wAt H (at_ + 3 * i).toNat else 0 := by
  have := Znv H at_ 64 (Nat.le_refl _) i
  rw [decide_eq_true hi, Bool.true_and] at this
  exact this
theorem ZmW (f : Vector Int 64) {i : Nat} (hi : 64 ≤ i) : wd f i = 0 := by
  unfold wd
  rw [List.getD_eq_getElem?_getD, List.getElem?_eq_none (by simp; omega)]; rfl
theorem Zeo {H : List Int} (h : hL H) (at_ : Int) (i : Nat) : 0 ≤ wd (frW H at_).1 i ∧ wd (frW H at_).1 i ≤ 4095 := by
  rcases Nat.lt_or_ge i 64 with hi | hi
  · rw [ZqU H at_ i hi]
    split
    · exact Zq2 h _
    · exact ⟨by decide, by decide⟩
  · rw [ZmW _ hi]; exact ⟨by decide, by decide⟩
theorem Zmo {H : List Int} (h : hL H) (at_ : Int) : fU (frW H at_).1 := fun i => ⟨(Zeo h at_ i).1, by have := (Zeo h at_ i).2; omega⟩
theorem Zqv {H : List Int} (h : hL H) {k : Nat} (hk : k + 3 ≤ H.length) : ∃ l, slc H (k : Int) ((k : Int) + 3) = some l ∧ Xi l = some (wAt H k) := by
  obtain ⟨a, ha⟩ := ZT (xs := H) (k := k) (by omega)
  obtain ⟨b, hb⟩ := ZT (xs := H) (k := k + 1) (by omega)
  obtain ⟨c, hc⟩ := ZT (xs := H) (k := k + 2) (by omega)
  refine ⟨_, Zp3 ha hb hc, ?_⟩
  unfold wAt
  rw [ZhM (h a (List.mem_of_getElem? ha)) (h b (List.mem_of_getElem? hb)) (h c (List.mem_of_getElem? hc)), Jf ha, Jf hb, Jf hc]
theorem Zn7 {H : List Int} (h : hL H) {at_ : Nat} (hat : at_ + 192 ≤ H.length) {v : Vector Int 192} (hv : v.toList = (H.drop at_).take 192) : Jb v = some (frW H (at_ : Int)).1 := by
  have hvl : v.toList.length = 192 := by simp
  have hvh : hL v.toList := fun x hx => by rw [hv] at hx; exact h x (List.mem_of_mem_drop (List.mem_of_mem_take hx))
  have := Zdr (body := Xq v) (fun k => (Zlt H (at_ : Int) k).1) (frW H (at_ : Int)).1 (a := 0) (b := 64) (by decide) (fun k _ hk => by
    unfold Xq
    obtain ⟨l, hl1, hl2⟩ := Zqv hvh (k := 3 * k) (by omega)
    have e1 : i64 (3 * (k : Int)) = ((3 * k : Nat) : Int) := by rw [Z7 (by omega) (by omega)]; push_cast; rfl
    rw [if_pos (by simp; omega), e1, Z7 (z := ((3 * k : Nat) : Int) + 3) (by omega) (by omega), hl1, Option.bind_some, hl2, Option.bind_some, Z8 _ hk, Option.bind_some, Z7 (z := (k : Int) + 1) (by omega) (by omega)]
    have eg : ∀ j, j < 192 → v.toList.getD j 0 = H.getD (at_ + j) 0 := fun j hj => by
      rw [hv, List.getD_eq_getElem?_getD, List.getElem?_take, if_pos hj, List.getElem?_drop, List.getD_eq_getElem?_getD]
    have ew : wAt v.toList (3 * k) = wAt H (at_ + 3 * k) := by
      unfold wAt
      rw [eg _ (by omega), eg _ (by omega), eg _ (by omega)]; rfl
    have es : (Zlt H (at_ : Int) (k + 1)).1 = Qp (Zlt H (at_ : Int) k).1 (k : Int) (wAt H (at_ + 3 * k)) := by
      have e : Zlt H (at_ : Int) (k + 1) = Zid H (at_ : Int) (Zlt H (at_ : Int) k) k := Zca _ _ _
      rw [e]
      unfold Zid
      rw [if_pos (by omega)]
      have : ((at_ : Int) + 3 * (k : Int)).toNat = at_ + 3 * k := by omega
      rw [this]; rfl
    rw [es, ew]) (by unfold Xq; rw [if_neg (by decide)]; rfl)
  unfold Jb
  have e0 : (Vector.replicate 64 (0 : Int), (0 : Int)) = ((Zlt H (at_ : Int) 0).1, ((0 : Nat) : Int)) := rfl
  rw [e0, this]
  rfl
def ZhB (w : Int) : Bool := decide (w = 583) || (decide (w = 1464) || (decide (w = 2631) || decide (w = 3512)))
theorem ZoT (w : Int) : Jt w = some (ZhB w) := by
  have := Zi5 (body := XJ w) (fun k => !decide (Xa (k : Int) = w)) (.inl true : Bool ⊕ Unit) (.inr ()) (a := 0) (b := 4) (by decide) (fun k _ hk => by
    unfold XJ Zah
    have hb : 0 ≤ Xa (k : Int) ∧ Xa (k : Int) ≤ 65535 := by
      have : k = 0 ∨ k = 1 ∨ k = 2 ∨ k = 3 := by omega
      rcases this with rfl | rfl | rfl | rfl <;> exact ⟨by decide, by decide⟩
    obtain ⟨s1, s2⟩ := Zfw (n := (k : Int)) (by omega)
    rw [if_pos (by simp; omega), if_neg (by simp; omega), s1, Option.bind_some, s2, Option.bind_some, Option.bind_some, Z7 (z := Xa (k : Int)) (by omega) (by omega), Zfs hb, Z7 (z := (k : Int) + 1) (by omega) (by omega)]
    by_cases hw : Xa (k : Int) = w
    · rw [if_pos (by simpa using hw), if_neg (by simpa using hw)]
    · rw [if_neg (by simpa using hw), if_pos (by simpa using hw)]) (by unfold XJ; rw [if_neg (by decide)])
  unfold Jt
  rw [show (0 : Int) = ((0 : Nat) : Int) from rfl, this, Option.bind_some]
  have e : (List.range' 0 (4 - 0)).all (fun k => !decide (Xa (k : Int) = w)) = !ZhB w := by
    have s0 : Xa ((0 : Nat) : Int) = 583 := by decide
    have s1 : Xa ((1 : Nat) : Int) = 1464 := by decide
    have s2 : Xa ((2 : Nat) : Int) = 2631 := by decide
    have s3 : Xa ((3 : Nat) : Int) = 3512 := by decide
    show (!decide (Xa ((0 : Nat) : Int) = w) && (!decide (Xa ((1 : Nat) : Int) = w) && (!decide (Xa ((2 : Nat) : Int) = w) && (!decide (Xa ((3 : Nat) : Int) = w) && true)))) = !ZhB w
    rw [s0, s1, s2, s3]
    unfold ZhB
    simp only [Bool.not_or, Bool.and_true, eq_comm]
  rw [e]
  cases ZhB w <;> rfl
noncomputable def scF (H : List Int) (k : Nat) : List api_Found := if (ZhB (wAt H k) && ZgM (frW H (k : Int)).1) = true then [api_Found.mk (k : Int) (frW H (k : Int)).1] else []
noncomputable def scL (H : List Int) (n : Nat) : List api_Found := (List.range n).flatMap (scF H)
theorem Zio (H : List Int) (n : Nat) : scL H (n + 1) = scL H n ++ scF H n := by
  unfold scL
  rw [List.range_succ, List.flatMap_append]; simp
theorem ZpI (H : List Int) (k : Nat) : (scF H k).length ≤ 1 := by unfold scF; split <;> simp
theorem Zh0 (H : List Int) : ∀ n, (scL H n).length ≤ n
  | 0 => by simp [scL]
  | n + 1 => by
    have := Zh0 H n
    have := ZpI H n
    rw [Zio, List.length_append]; omega
theorem Zoi {H : List Int} (h : hL H) (hl : H.length ≤ 900000) : ZaK H = some (scL H (H.length - 191)) ∧ Zfi H = some (scL H (H.length - 191)) := by
  constructor
  · have := Zdr (body := Xp H) (scL H) (scL H (H.length - 191)) (a := 0) (b := H.length - 191) (by omega) (fun k _ hk => by
      have hlen := Zh0 H k
      unfold Xp
      obtain ⟨l, hl1, hl2⟩ := Zqv h (k := k) (by omega)
      rw [Z7 (z := (k : Int) + 192) (by omega) (by omega), if_pos (by simp; omega), Z7 (z := (k : Int) + 3) (by omega) (by omega), hl1, Option.bind_some, hl2, Option.bind_some, ZoT, Option.bind_some, Zio, Z7 (z := (k : Int) + 1) (by omega) (by omega)]
      unfold scF
      cases hs : ZhB (wAt H k)
      · rw [if_pos (by decide), Option.bind_some, Bool.false_and, if_neg (by decide), List.append_nil]; rfl
      · rw [if_neg (by decide)]
        have hsl : slc H (k : Int) ((k : Int) + 192) = some ((H.drop k).take 192) := by
          have := ZrR (l := H) (a := k) (b := k + 192) (by omega) (by omega)
          rw [show ((k + 192 : Nat) : Int) = (k : Int) + 192 by omega] at this
          rw [this, List.drop_take]
          congr 2
          omega
        have hlen2 : ((H.drop k).take 192).length = 192 := by rw [List.length_take, List.length_drop]; omega
        rw [hsl, Option.bind_some]
        obtain ⟨v, hv⟩ : ∃ v, tov 192 ((H.drop k).take 192) = some v := by unfold tov; rw [dif_pos (by omega)]; exact ⟨_, rfl⟩
        have hv2 := (ZlY hv).2
        rw [List.take_of_length_le (by omega)] at hv2
        rw [hv, Option.bind_some, Zn7 h (by omega) hv2, Option.bind_some, Znj (Zmo h _), Option.bind_some, Bool.true_and]
        cases hsn : ZgM (frW H (k : Int)).1
        · rw [if_neg (by decide), if_neg (by decide), if_neg (by decide), Option.bind_some, List.append_nil]; rfl
        · rw [if_pos (by decide), if_pos (by decide), XP (by simp; omega), Option.bind_some]; rfl) (by
      unfold Xp
      rw [Z7 (by omega) (by omega), if_neg (by simp; omega)])
    unfold ZaK JS
    have e0 : (([] : List api_Found), (0 : Int)) = (scL H 0, ((0 : Nat) : Int)) := rfl
    rw [e0, this]
  · have := Zdr (body := ZcH H) (scL H) (scL H (H.length - 191)) (a := 0) (b := H.length - 191) (by omega) (fun k _ hk => by
      have hlen := Zh0 H k
      obtain ⟨a, ha⟩ := ZT (xs := H) (k := k) (by omega)
      obtain ⟨b, hb⟩ := ZT (xs := H) (k := k + 1) (by omega)
      obtain ⟨c, hc⟩ := ZT (xs := H) (k := k + 2) (by omega)
      have ba := h a (List.mem_of_getElem? ha)
      have bb := h b (List.mem_of_getElem? hb)
      have bc := h c (List.mem_of_getElem? hc)
      have ew : wAt H k = w3 a b c := by unfold wAt; rw [Jf ha, Jf hb, Jf hc]
      have e1 : i64 ((k : Int) + 1) = ((k + 1 : Nat) : Int) := by rw [Z7 (by omega) (by omega)]; push_cast; rfl
      have e2 : i64 ((k : Int) + 2) = ((k + 2 : Nat) : Int) := by rw [Z7 (by omega) (by omega)]; push_cast; rfl
      have e3 : i64 (i64 (i64 (i64 a * 256) + i64 (i64 b * 16)) + i64 c) = w3 a b c := by
        rw [Z7 (z := a) (by omega) (by omega), Z7 (z := b) (by omega) (by omega), Z7 (z := c) (by omega) (by omega), Z7 (z := a * 256) (by omega) (by omega), Z7 (z := b * 16) (by omega) (by omega), Z7 (z := a * 256 + b * 16) (by omega) (by omega), Z7 (by omega) (by omega)]
        unfold w3; omega
      unfold ZcH
      rw [Z7 (z := (k : Int) + 192) (by omega) (by omega), if_pos (by simp; omega), Z2 ha, Option.bind_some, e1, Z2 hb, Option.bind_some, e2, Z2 hc, Option.bind_some, e3, Zio, ← ew]
      have hsy : (((!decide (wAt H k = 583) && !decide (wAt H k = 1464)) && !decide (wAt H k = 2631)) && !decide (wAt H k = 3512)) = !ZhB (wAt H k) := by
        unfold ZhB
        simp only [Bool.not_or, Bool.and_assoc]
      rw [hsy]
      unfold scF
      cases hs : ZhB (wAt H k)
      · rw [if_pos (by decide), Option.bind_some, Bool.false_and, if_neg (by decide), List.append_nil]; rfl
      · rw [if_neg (by decide), Zko h (by omega) (by omega), Option.bind_some, Zkg (Zmo h _), Option.bind_some, Bool.true_and]
        cases hsn : ZgM (frW H (k : Int)).1
        · rw [if_neg (by decide), if_neg (by decide), Option.bind_some, List.append_nil]; rfl
        · rw [if_pos (by decide), if_pos (by decide), XP (by simp; omega), Option.bind_some]; rfl) (by
      unfold ZcH
      rw [Z7 (by omega) (by omega), if_neg (by simp; omega)])
    unfold Zfi
    have e0 : (([] : List api_Found), (0 : Int)) = (scL H 0, ((0 : Nat) : Int)) := rfl
    rw [e0, this]
    rfl
theorem Znk {H : List Int} {k : Nat} {x : api_Found} (h : x ∈ scF H k) : x = api_Found.mk (k : Int) (frW H (k : Int)).1 ∧ ZhB (wAt H k) = true ∧ ZgM (frW H (k : Int)).1 = true := by
  unfold scF at h
  split at h
  · rename_i hc
    rw [Bool.and_eq_true] at hc
    exact ⟨by simpa using h, hc⟩
  · cases h
theorem ZlB {H : List Int} {n : Nat} {x : api_Found} (h : x ∈ scL H n) : ∃ k, k < n ∧ x = api_Found.mk (k : Int) (frW H (k : Int)).1 ∧ ZhB (wAt H k) = true ∧ ZgM (frW H (k : Int)).1 = true := by
  unfold scL at h
  obtain ⟨k, hk, hx⟩ := List.mem_flatMap.1 h
  exact ⟨k, List.mem_range.1 hk, Znk hx⟩
theorem ZhA (H : List Int) : ∀ n, (scL H n).Pairwise fun a b => a.At < b.At
  | 0 => by simp [scL]
  | n + 1 => by
    rw [Zio, List.pairwise_append]
    refine ⟨ZhA H n, ?_, fun a ha b hb => ?_⟩
    · unfold scF; split <;> simp
    · obtain ⟨k, hk, rfl, _⟩ := ZlB ha
      obtain ⟨rfl, _⟩ := Znk hb
      show (k : Int) < (n : Int)
      omega
def fz : api_Found := api_Found.mk 0 (Vector.replicate 64 0)
def Ord (l : List api_Found) : Prop := (l.Pairwise fun a b => a.At < b.At) ∧ ∀ x ∈ l, 0 ≤ x.At ∧ x.At ≤ 1000000
theorem Zqd (H : List Int) (n : Nat) (hn : n ≤ 1000000) : Ord (scL H n) := ⟨ZhA H n, fun x hx => by
  obtain ⟨k, hk, rfl, _⟩ := ZlB hx
  exact ⟨by show (0 : Int) ≤ (k : Int); omega, by show (k : Int) ≤ 1000000; omega⟩⟩
theorem Zl3 {l : List api_Found} (h : Ord l) {k : Nat} {x y : api_Found} (hx : l[k]? = some x) (hy : l[k + 1]? = some y) : x.At < y.At := by
  obtain ⟨h1, rfl⟩ := List.getElem?_eq_some_iff.1 hx
  obtain ⟨h2, rfl⟩ := List.getElem?_eq_some_iff.1 hy
  exact List.pairwise_iff_getElem.1 h.1 k (k + 1) h1 h2 (by omega)
def Zo6 (l : List api_Found) (k : Nat) : Bool :=
  (decide (k = 0) || decide (192 ≤ (l.getD k fz).At - (l.getD (k - 1) fz).At)) && (decide (k + 1 = l.length) || decide (192 ≤ (l.getD (k + 1) fz).At - (l.getD k fz).At))
def Zm7 (l : List api_Found) (k : Nat) : List api_Found := if Zo6 l k = true then [l.getD k fz] else []
def Zkz (l : List api_Found) (n : Nat) : List api_Found := (List.range n).flatMap (Zm7 l)
def ZiG (l : List api_Found) : List api_Found := Zkz l l.length
theorem ZgX (l : List api_Found) (n : Nat) : Zkz l (n + 1) = Zkz l n ++ Zm7 l n := by
  unfold Zkz
  rw [List.range_succ, List.flatMap_append]; simp
theorem Zkc (l : List api_Found) : ∀ n, (Zkz l n).length ≤ n
  | 0 => by simp [Zkz]
  | n + 1 => by
    have := Zkc l n
    have : (Zm7 l n).length ≤ 1 := by unfold Zm7; split <;> simp
    rw [ZgX, List.length_append]; omega
theorem ZiS {l : List api_Found} {k : Nat} {x : api_Found} (h : l[k]? = some x) : l.getD k fz = x := by rw [List.getD_eq_getElem?_getD, h]; rfl
theorem ZlA {l : List api_Found} (h : Ord l) (hl : l.length ≤ 1000000) : loop (t2 (Q3 l)) ([], 0) = some (ZiG l) ∧ loop (t2 (JQ l)) ([], 0) = some (ZiG l) := by
  have e0 : (([] : List api_Found), (0 : Int)) = (Zkz l 0, ((0 : Nat) : Int)) := rfl
  have facts : ∀ k, k < l.length → ∃ x p n : api_Found, l[k]? = some x ∧ (k ≠ 0 → l[k - 1]? = some p ∧ p.At < x.At ∧ 0 ≤ p.At) ∧ (k + 1 ≠ l.length → l[k + 1]? = some n ∧ x.At < n.At ∧ n.At ≤ 1000000) ∧ 0 ≤ x.At ∧ x.At ≤ 1000000 := by
    intro k hk
    obtain ⟨x, hx⟩ := ZT hk
    have bx := h.2 x (List.mem_of_getElem? hx)
    refine ⟨x, l.getD (k - 1) fz, l.getD (k + 1) fz, hx, fun h0 => ?_, fun h1 => ?_, bx⟩
    · obtain ⟨p, hp⟩ := ZT (xs := l) (k := k - 1) (by omega)
      rw [ZiS hp]
      have := Zl3 h (k := k - 1) hp (by rw [show k - 1 + 1 = k by omega]; exact hx)
      exact ⟨hp, this, (h.2 p (List.mem_of_getElem? hp)).1⟩
    · obtain ⟨n, hn⟩ := ZT (xs := l) (k := k + 1) (by omega)
      rw [ZiS hn]
      exact ⟨hn, Zl3 h hx hn, (h.2 n (List.mem_of_getElem? hn)).2⟩
  constructor
  · have := Zdr (body := Q3 l) (Zkz l) (ZiG l) (a := 0) (b := l.length) (by omega) (fun k _ hk => by
      obtain ⟨x, p, n, hx, hp, hn, bx⟩ := facts k hk
      have hlen := Zkc l k
      unfold Q3
      have e1 : i64 ((k : Int) + 1) = ((k + 1 : Nat) : Int) := by rw [Z7 (by omega) (by omega)]; push_cast; rfl
      have e2 : i64 ((l.length : Int) - 1) = (l.length : Int) - 1 := Z7 (by omega) (by omega)
      have d2 : decide ((k : Int) = (l.length : Int) - 1) = decide (k + 1 = l.length) := by rw [decide_eq_decide]; omega
      have d0 : decide ((k : Int) = 0) = decide (k = 0) := by rw [decide_eq_decide]; omega
      rw [if_pos (by simp; omega), Z2 hx, Option.bind_some, e1, e2, d2, d0, ZgX]
      have en : ((k + 1 : Nat) : Int) = (k : Int) + 1 := by push_cast; rfl
      unfold Zm7 Zo6
      rw [ZiS hx]
      have A : ∃ b1 : Bool, ∃ x2, (gd ((decide (k = 0)) == false) (api_Found.mk 0 (Vector.replicate 64 0)) (idx l (i64 ((k : Int) - 1)))) = some x2 ∧ (decide (k = 0) || decide (192 ≤ i64 (x.At - x2.At))) = b1 ∧ (decide (k = 0) || decide (192 ≤ x.At - (l.getD (k - 1) fz).At)) = b1 := by
        by_cases h0 : k = 0
        · exact ⟨true, _, by rw [decide_eq_true h0]; rfl, by rw [decide_eq_true h0]; rfl, by rw [decide_eq_true h0]; rfl⟩
        · obtain ⟨q1, q2, q3⟩ := hp h0
          have ei : i64 ((k : Int) - 1) = ((k - 1 : Nat) : Int) := by rw [Z7 (by omega) (by omega)]; omega
          refine ⟨_, p, by rw [decide_eq_false h0, ei, Z2 q1]; rfl, rfl, ?_⟩
          rw [ZiS q1, Z7 (by omega) (by omega)]
      obtain ⟨b1, x2, a1, a2, a3⟩ := A
      rw [a1, Option.bind_some, a2, a3]
      have B : ∃ b2 : Bool, ∃ x3, (gd ((b1 == true) && ((decide (k + 1 = l.length)) == false)) (api_Found.mk 0 (Vector.replicate 64 0)) (idx l ((k + 1 : Nat) : Int))) = some x3 ∧ (b1 && (decide (k + 1 = l.length) || decide (192 ≤ i64 (x3.At - x.At)))) = b2 ∧ (b1 && (decide (k + 1 = l.length) || decide (192 ≤ (l.getD (k + 1) fz).At - x.At))) = b2 := by
        by_cases h0 : k + 1 = l.length
        · refine ⟨b1, api_Found.mk 0 (Vector.replicate 64 0), by rw [decide_eq_true h0, show (true == false) = false from rfl, Bool.and_false]; rfl, by rw [decide_eq_true h0, Bool.true_or, Bool.and_true], by rw [decide_eq_true h0, Bool.true_or, Bool.and_true]⟩
        · obtain ⟨q1, q2, q3⟩ := hn h0
          cases b1
          · exact ⟨false, _, rfl, rfl, rfl⟩
          · refine ⟨_, n, by rw [decide_eq_false h0, Z2 q1]; rfl, rfl, ?_⟩
            rw [ZiS q1, Z7 (by omega) (by omega)]
      obtain ⟨b2, x3, c1, c2, c3⟩ := B
      rw [c1, Option.bind_some, c2, c3]
      cases b2
      · rw [if_neg (by decide), if_neg (by decide), List.append_nil, en]
      · rw [if_pos rfl, if_pos rfl, XP (by simp; omega), Option.bind_some, en]) (by
      unfold Q3
      rw [if_neg (by simp)]; rfl)
    rw [e0, this]
  · have := Zdr (body := JQ l) (Zkz l) (ZiG l) (a := 0) (b := l.length) (by omega) (fun k _ hk => by
      obtain ⟨x, p, n, hx, hp, hn, bx⟩ := facts k hk
      have hlen := Zkc l k
      unfold JQ
      have e1 : i64 ((k : Int) + 1) = ((k + 1 : Nat) : Int) := by rw [Z7 (by omega) (by omega)]; push_cast; rfl
      have d2 : decide (((k + 1 : Nat) : Int) = (l.length : Int)) = decide (k + 1 = l.length) := by rw [decide_eq_decide]; omega
      have d0 : decide ((k : Int) = 0) = decide (k = 0) := by rw [decide_eq_decide]; omega
      rw [if_pos (by simp; omega), Z2 hx, Option.bind_some, e1, d2, d0, ZgX]
      have en : ((k + 1 : Nat) : Int) = (k : Int) + 1 := by push_cast; rfl
      unfold Zm7 Zo6
      rw [ZiS hx]
      have A : ∃ b1 : Bool, ∃ x2 y, (gd ((decide (k = 0)) == false) (api_Found.mk 0 (Vector.replicate 64 0)) (idx l (i64 ((k : Int) - 1)))) = some x2 ∧ (gd ((decide (k = 0)) == false) 0 (Q2 x2.At x.At)) = some y ∧ (decide (k = 0) || decide (192 ≤ y)) = b1 ∧ (decide (k = 0) || decide (192 ≤ x.At - (l.getD (k - 1) fz).At)) = b1 := by
        by_cases h0 : k = 0
        · exact ⟨true, _, _, by rw [decide_eq_true h0]; rfl, by rw [decide_eq_true h0]; rfl, by rw [decide_eq_true h0]; rfl, by rw [decide_eq_true h0]; rfl⟩
        · obtain ⟨q1, q2, q3⟩ := hp h0
          have ei : i64 ((k : Int) - 1) = ((k - 1 : Nat) : Int) := by rw [Z7 (by omega) (by omega)]; omega
          have ea : Q2 p.At x.At = some (x.At - p.At) := by unfold Q2; rw [if_pos (by simpa using q2), Z7 (by omega) (by omega)]
          refine ⟨_, p, _, by rw [decide_eq_false h0, ei, Z2 q1]; rfl, by rw [decide_eq_false h0, ea]; rfl, rfl, ?_⟩
          rw [ZiS q1]
      obtain ⟨b1, x2, y, a1, a1', a2, a3⟩ := A
      rw [a1, Option.bind_some, a1', Option.bind_some, a2, a3]
      have B : ∃ b2 : Bool, ∃ x3 y2, (gd ((b1 == true) && ((decide (k + 1 = l.length)) == false)) (api_Found.mk 0 (Vector.replicate 64 0)) (idx l ((k + 1 : Nat) : Int))) = some x3 ∧ (gd ((b1 == true) && ((decide (k + 1 = l.length)) == false)) 0 (Q2 x3.At x.At)) = some y2 ∧ (b1 && (decide (k + 1 = l.length) || decide (192 ≤ y2))) = b2 ∧ (b1 && (decide (k + 1 = l.length) || decide (192 ≤ (l.getD (k + 1) fz).At - x.At))) = b2 := by
        by_cases h0 : k + 1 = l.length
        · refine ⟨b1, api_Found.mk 0 (Vector.replicate 64 0), 0, by rw [decide_eq_true h0, show (true == false) = false from rfl, Bool.and_false]; rfl, by rw [decide_eq_true h0, show (true == false) = false from rfl, Bool.and_false]; rfl, by rw [decide_eq_true h0, Bool.true_or, Bool.and_true], by rw [decide_eq_true h0, Bool.true_or, Bool.and_true]⟩
        · obtain ⟨q1, q2, q3⟩ := hn h0
          cases b1
          · exact ⟨false, _, _, rfl, rfl, rfl, rfl⟩
          · have ea : Q2 n.At x.At = some (n.At - x.At) := by unfold Q2; rw [if_neg (by simp; omega), Z7 (by omega) (by omega)]
            refine ⟨_, n, _, by rw [decide_eq_false h0, Z2 q1]; rfl, by rw [decide_eq_false h0, ea]; rfl, rfl, ?_⟩
            rw [ZiS q1]
      obtain ⟨b2, x3, y2, c1, c1', c2, c3⟩ := B
      rw [c1, Option.bind_some, c1', Option.bind_some, c2, c3]
      cases b2
      · rw [if_neg (by decide), if_neg (by decide), List.append_nil, en]
      · rw [if_pos rfl, if_pos rfl, XP (by simp; omega), Option.bind_some, en]) (by
      unfold JQ
      rw [if_neg (by simp)]; rfl)
    rw [e0, this]
theorem ZnT (H : List Int) (hl : H.length ≤ 900000) : (scL H (H.length - 191)).length ≤ 1000000 ∧ Ord (scL H (H.length - 191)) := ⟨by have := Zh0 H (H.length - 191); omega, Zqd H _ (by omega)⟩
theorem Zlf {H : List Int} (h : hL H) (hl : H.length ≤ 900000) : X9 H = some (ZiG (scL H (H.length - 191))) ∧ Zc5 (scL H (H.length - 191)) = some (ZiG (scL H (H.length - 191))) := by
  obtain ⟨b1, b2⟩ := ZnT H hl
  obtain ⟨c1, c2⟩ := ZlA b2 b1
  unfold X9 Zc5
  rw [(Zoi h hl).1, Option.bind_some, c1, c2]
  exact ⟨rfl, rfl⟩
end Go.Vx

namespace Go.Vx
open Go Go.RowKit
end Go.Vx

namespace Go.Vx
open Go Go.RowKit
def hf (f : Vector Int 64) (n : Nat) : Int := wd f (n / 3) / (2 : Int) ^ (8 - 4 * (n % 3)) % 16
theorem ZeJ {f g : Vector Int 64} (h : ∀ i, i < 64 → wd f i = wd g i) : f = g := by
  refine Vector.toList_inj.1 (List.ext_getElem? fun i => ?_)
  rcases Nat.lt_or_ge i 64 with hi | hi
  · obtain ⟨x, hx⟩ := ZT (xs := f.toList) (k := i) (by simp; omega)
    obtain ⟨y, hy⟩ := ZT (xs := g.toList) (k := i) (by simp; omega)
    have := h i hi
    unfold wd at this
    rw [Jf hx, Jf hy] at this
    rw [hx, hy, this]
  · rw [List.getElem?_eq_none (by simp; omega), List.getElem?_eq_none (by simp; omega)]
theorem ZqJ (n : Int) (h : 0 ≤ n) : ZhB (Xa n) = true := by
  have e : ∀ m, m < 4 → ZhB (gv_frame_syncs.toList.getD m 0) = true := by decide
  exact e _ (by omega)
end Go.Vx

namespace Go.Vx
open Go Go.RowKit
theorem Jg {σ ρ : Type} {body : σ → Int → Option ((σ × Int) ⊕ ρ)} {N : Nat} (I : Nat → σ → Prop) (Q : ρ → Prop)
    (hstep : ∀ (k : Nat) s, k < N → I k s → (∃ s', body s (k : Int) = some (.inl (s', (k : Int) + 1)) ∧ I (k + 1) s') ∨ ∃ r, body s (k : Int) = some (.inr r) ∧ Q r)
    (hend : ∀ s, I N s → ∃ r, body s (N : Int) = some (.inr r) ∧ Q r) {s0 : σ} (h0 : I 0 s0) : ∃ r, loop (t2 body) (s0, 0) = some r ∧ Q r := by
  refine Zeq (body := t2 body) (fun p => ∃ k : Nat, p.2 = k ∧ k ≤ N ∧ I k p.1) (fun p => N - p.2.toNat) Q ?_ (s0, 0) ⟨0, rfl, Nat.zero_le _, h0⟩
  rintro ⟨s, i⟩ ⟨k, hi, hk, hI⟩
  simp only at hi hI
  subst hi
  simp only [Int.toNat_natCast, Zc8]
  rcases Nat.lt_or_ge k N with h | h
  · rcases hstep k s h hI with ⟨s', h1, h2⟩ | ⟨r, h1, h2⟩
    · exact .inl ⟨_, h1, ⟨k + 1, by push_cast; rfl, h, h2⟩, by simp only; omega⟩
    · exact .inr ⟨r, h1, h2⟩
  · have : k = N := by omega
    subst this
    exact .inr (hend s hI)
theorem ZdA {α β ρ : Type} {body : α → β → Int → Option ((α × β × Int) ⊕ ρ)} {N : Nat} (I : Nat → α → β → Prop) (Q : ρ → Prop)
    (hstep : ∀ (k : Nat) a b, k < N → I k a b → (∃ a' b', body a b (k : Int) = some (.inl (a', b', (k : Int) + 1)) ∧ I (k + 1) a' b') ∨ ∃ r, body a b (k : Int) = some (.inr r) ∧ Q r)
    (hend : ∀ a b, I N a b → ∃ r, body a b (N : Int) = some (.inr r) ∧ Q r) {a0 : α} {b0 : β} (h0 : I 0 a0 b0) : ∃ r, loop (t3 body) (a0, b0, 0) = some r ∧ Q r := by
  refine Zeq (body := t3 body) (fun p => ∃ k : Nat, p.2.2 = k ∧ k ≤ N ∧ I k p.1 p.2.1) (fun p => N - p.2.2.toNat) Q ?_ (a0, b0, 0) ⟨0, rfl, Nat.zero_le _, h0⟩
  rintro ⟨a, b, i⟩ ⟨k, hi, hk, hI⟩
  simp only at hi hI
  subst hi
  simp only [Int.toNat_natCast, Znc]
  rcases Nat.lt_or_ge k N with h | h
  · rcases hstep k a b h hI with ⟨a', b', h1, h2⟩ | ⟨r, h1, h2⟩
    · exact .inl ⟨_, h1, ⟨k + 1, by push_cast; rfl, h, h2⟩, by simp only; omega⟩
    · exact .inr ⟨r, h1, h2⟩
  · have : k = N := by omega
    subst this
    exact .inr (hend a b hI)
theorem XO {k N : Nat} (h : k < N) (hN : N ≤ 4000000000) : i64 ((k : Int) + 1) = (k : Int) + 1 := Z7 (by omega) (by omega)
theorem Zm1 (c : Int) {i : Nat} (hi : i < 64) : wd (Vector.replicate 64 c) i = c := by
  show (Vector.replicate 64 c).toList.getD i 0 = c
  rw [Vector.toList_replicate, List.getD_eq_getElem?_getD, List.getElem?_replicate, if_pos hi]; rfl
theorem ZbC (i : Nat) : wd (Vector.replicate 64 (0 : Int)) i = 0 := by
  by_cases h : i < 64
  · exact Zm1 0 h
  · exact ZmW _ (by omega)
theorem Znd {body : Vector Int 64 → Int → Option ((Vector Int 64 × Int) ⊕ Vector Int 64)} (c : Int) (h1 : ∀ (v : Vector Int 64) (k : Nat), k < 64 → body v k = some (.inl (Qp v k c, (k : Int) + 1)))
    (h2 : ∀ v, body v 64 = some (.inr v)) (v0 : Vector Int 64) : loop (t2 body) (v0, 0) = some (Vector.replicate 64 c) := by
  obtain ⟨r, e1, e2⟩ := Jg (body := body) (N := 64) (fun k v => ∀ i, i < k → wd v i = c) (fun r => r = Vector.replicate 64 c) (fun k v hk hI => .inl ⟨_, h1 v k hk, fun i hi => by
    rw [X6 v hk]
    split
    · rfl
    · exact hI i (by omega)⟩) (fun v hI => ⟨v, h2 v, ZeJ fun i hi => by rw [hI i hi, Zm1 c hi]⟩) (fun i hi => by omega)
  rw [e1, e2]
theorem Zj9 (c : Int) : XD c = some (Vector.replicate 64 c) := by
  unfold XD
  rw [Znd (body := XH c) c (fun v k hk => by
    unfold XH
    rw [if_pos (by simp; omega), Z8 v hk, Option.bind_some, XO hk (by omega)]) (fun v => by unfold XH; rw [if_neg (by simp)])]
  rfl
structure MOK (n : Int) (l : List api_Rest) : Prop where
  ne : l ≠ []
  len : l.length ≤ 1000000000
  num : ∀ r ∈ l, r.Number = n
  nar : ∀ r ∈ l, ∀ i, 0 ≤ wd r.Frame i ∧ wd r.Frame i ≤ 4095
  cop : ∀ r ∈ l, 0 ≤ r.Copies ∧ r.Copies ≤ 1000000000
def sumC (l : List api_Rest) : Int := (l.map (·.Copies)).sum
theorem ZiB : ∀ {l : List api_Rest}, (∀ r ∈ l, 0 ≤ r.Copies ∧ r.Copies ≤ 1000000000) → 0 ≤ sumC l ∧ sumC l ≤ 1000000000 * l.length
  | [], _ => ⟨Int.le_refl 0, Int.le_refl 0⟩
  | r :: l, h => by
    have h1 := h r (by simp)
    have h2 := ZiB (l := l) fun x hx => h x (by simp [hx])
    simp only [sumC, List.map_cons, List.sum_cons, List.length_cons] at *
    omega
theorem ZgU {l : List api_Rest} {k : Nat} {x : api_Rest} (hx : l[k]? = some x) : sumC (l.take (k + 1)) = sumC (l.take k) + x.Copies := by
  rw [List.take_succ, hx]
  simp [sumC]
def Snd (l : List api_Rest) (s : api_Rest) : Prop := s ∈ l ∧ s.Sound = true
def Clash (l : List api_Rest) : Prop := (∃ r ∈ l, r.Conflict = true) ∨ ∃ r s, Snd l r ∧ Snd l s ∧ r.Frame ≠ s.Frame
def Top (l : List api_Rest) (V : Vector Int 64) : Prop := ∀ i, i < 64 → (∀ r, Snd l r → wd r.States i ≤ wd V i) ∧ 0 ≤ wd V i ∧ (wd V i = 0 ∨ ∃ r, Snd l r ∧ wd r.States i = wd V i)
def Agr (l : List api_Rest) (i : Nat) (w : Int) : Prop := (∃ r ∈ l, wd r.States i ≠ 0 ∧ wd r.Frame i = w) ∧ ∀ r ∈ l, wd r.States i ≠ 0 → wd r.Frame i = w
def Parts4 (l : List api_Rest) (F S : Vector Int 64) : Prop := ∀ i, i < 64 → (Agr l i (wd F i) ∧ wd S i = 1) ∨ ((∀ w, ¬ Agr l i w) ∧ wd F i = 0 ∧ wd S i = 0)
open Classical in
noncomputable def sndOut (n C : Int) (F V : Vector Int 64) : api_Rest := ⟨n, F, V, true, if (∀ i, i < 64 → wd V i = 3) then max C 1 else C, false⟩
open Classical in
noncomputable def prtOut (n C : Int) (F S : Vector Int 64) : api_Rest := if (∀ i, i < 64 → wd S i = 1) ∧ ZmK F n = true then ⟨n, F, Vector.replicate 64 3, true, 1, false⟩ else ⟨n, F, S, false, C, false⟩
inductive MG (n : Int) (l : List api_Rest) : api_Rest → Prop
  | clash : Clash l → MG n l ⟨n, Vector.replicate 64 0, Vector.replicate 64 0, false, sumC l, true⟩
  | sound {s : api_Rest} {V : Vector Int 64} : ¬ Clash l → Snd l s → Top l V → MG n l (sndOut n (sumC l) s.Frame V)
  | parts {F S : Vector Int 64} : ¬ Clash l → (∀ s, ¬ Snd l s) → Parts4 l F S → MG n l (prtOut n (sumC l) F S)
theorem Snd.congr {l l' : List api_Rest} (h : ∀ r, r ∈ l ↔ r ∈ l') (s : api_Rest) : Snd l s ↔ Snd l' s := by unfold Snd; rw [h]
theorem Clash.congr {l l' : List api_Rest} (h : ∀ r, r ∈ l ↔ r ∈ l') : Clash l ↔ Clash l' := by
  unfold Clash
  simp only [Snd.congr h, h]
theorem Zps {l l' : List api_Rest} (h : ∀ r, r ∈ l ↔ r ∈ l') {V V' : Vector Int 64} (h1 : Top l V) (h2 : Top l' V') : V = V' := ZeJ fun i hi => by
  obtain ⟨a1, a2, a3⟩ := h1 i hi
  obtain ⟨b1, b2, b3⟩ := h2 i hi
  have le1 : wd V i ≤ wd V' i := by
    rcases a3 with e | ⟨r, hr, e⟩
    · omega
    · rw [← e]; exact b1 r ((Snd.congr h r).1 hr)
  have le2 : wd V' i ≤ wd V i := by
    rcases b3 with e | ⟨r, hr, e⟩
    · omega
    · rw [← e]; exact a1 r ((Snd.congr h r).2 hr)
  omega
theorem Zpi {l l' : List api_Rest} (h : ∀ r, r ∈ l ↔ r ∈ l') {i : Nat} {w w' : Int} (h1 : Agr l i w) (h2 : Agr l' i w') : w = w' := by
  obtain ⟨⟨r, hr, h3, h4⟩, _⟩ := h1
  rw [← h4]; exact h2.2 r ((h r).1 hr) h3
theorem Zk5 {l l' : List api_Rest} (h : ∀ r, r ∈ l ↔ r ∈ l') {i : Nat} {w : Int} : Agr l i w ↔ Agr l' i w := by unfold Agr; simp only [h]
theorem ZmX {l l' : List api_Rest} (h : ∀ r, r ∈ l ↔ r ∈ l') {F F' S S' : Vector Int 64} (h1 : Parts4 l F S) (h2 : Parts4 l' F' S') : F = F' ∧ S = S' := by
  have key : ∀ i, i < 64 → wd F i = wd F' i ∧ wd S i = wd S' i := fun i hi => by
    rcases h1 i hi with ⟨a1, a2⟩ | ⟨a1, a2, a3⟩ <;> rcases h2 i hi with ⟨b1, b2⟩ | ⟨b1, b2, b3⟩
    · exact ⟨Zpi h a1 b1, by omega⟩
    · exact (b1 _ ((Zk5 h).1 a1)).elim
    · exact (a1 _ ((Zk5 h).2 b1)).elim
    · exact ⟨by omega, by omega⟩
  exact ⟨ZeJ fun i hi => (key i hi).1, ZeJ fun i hi => (key i hi).2⟩
theorem MG.uniq {n : Int} {l l' : List api_Rest} (h : ∀ r, r ∈ l ↔ r ∈ l') (hs : sumC l = sumC l') {o o' : api_Rest} (h1 : MG n l o) (h2 : MG n l' o') : o = o' := by
  cases h1 with
  | clash c1 =>
    cases h2 with
    | clash c2 => rw [hs]
    | sound c2 => exact (c2 ((Clash.congr h).1 c1)).elim
    | parts c2 => exact (c2 ((Clash.congr h).1 c1)).elim
  | @sound s V c1 s1 t1 =>
    cases h2 with
    | clash c2 => exact (c1 ((Clash.congr h).2 c2)).elim
    | @sound s' V' c2 s2 t2 =>
      have : s.Frame = s'.Frame := Classical.byContradiction fun e => c1 (.inr ⟨s, s', s1, (Snd.congr h s').2 s2, e⟩)
      rw [hs, this, Zps h t1 t2]
    | parts c2 s2 => exact (s2 s ((Snd.congr h s).1 s1)).elim
  | @parts F S c1 s1 p1 =>
    cases h2 with
    | clash c2 => exact (c1 ((Clash.congr h).2 c2)).elim
    | @sound s' V' c2 s2 t2 => exact (s1 s' ((Snd.congr h s').2 s2)).elim
    | parts c2 s2 p2 =>
      obtain ⟨e1, e2⟩ := ZmX h p1 p2
      rw [hs, e1, e2]
end Go.Vx

namespace Go.Vx
open Go Go.RowKit
theorem Zn1 (s : List api_Rest) (hs : s.length ≤ 1000000000) (g : api_Rest → Bool) : ZW s (fun z0 => some (g z0)) = some (s.any g) := by
  have z : api_Rest := ⟨0, Vector.replicate 64 0, Vector.replicate 64 0, false, 0, false⟩
  have := ZiO (body := t1 (ZQ s (fun z0 => some (g z0)))) (fun k => (k : Int)) (fun k => if g (s.getD k z) = true then some (k : Int) else none) (fun e => (.inl e : Int ⊕ Unit)) (.inr ()) (b := s.length) (fun k hk => by
    obtain ⟨x, hx⟩ := ZT hk
    have ex : s.getD k z = x := by rw [List.getD_eq_getElem?_getD, hx]; rfl
    have eb : ZQ s (fun z0 => some (g z0)) (k : Int) = if g x = true then some (.inr (.inl (k : Int))) else some (.inl ((k : Int) + 1)) := by
      unfold ZQ
      rw [if_pos (by simp; omega), Z2 hx, Option.bind_some, Option.bind_some, Z7 (by omega) (by omega)]
    rw [QN, eb, ex]
    by_cases hg : g x = true
    · exact .inl ⟨_, by rw [if_pos hg], by rw [if_pos hg]⟩
    · exact .inr ⟨by rw [if_neg hg], by rw [if_neg hg]; push_cast; rfl⟩) (by
    rw [QN]
    unfold ZQ
    rw [if_neg (by simp)])
  have e0 : (0 : Int) = ((0 : Nat) : Int) := rfl
  unfold ZW Qb
  rw [e0, this, Option.bind_some]
  cases hf : (List.range' 0 s.length).findSome? (fun k => if g (s.getD k z) = true then some (k : Int) else none) with
  | none =>
    show (some (-1 : Int)).bind _ = _
    rw [Option.bind_some]
    have : s.any g = false := by
      rw [List.any_eq_false]
      intro x hx hg
      obtain ⟨i, hi⟩ := List.getElem?_of_mem hx
      have := Zhs hf i (List.getElem?_eq_some_iff.1 hi).1
      rw [show s.getD i z = x by rw [List.getD_eq_getElem?_getD, hi]; rfl, if_pos hg] at this
      cases this
    rw [this]; rfl
  | some e =>
    show (some (e : Int)).bind _ = _
    rw [Option.bind_some]
    obtain ⟨k, hk, he⟩ := List.exists_of_findSome?_eq_some hf
    simp only [List.mem_range'_1] at hk
    split at he
    · rename_i hg
      cases he
      obtain ⟨x, hx⟩ := ZT (xs := s) (k := k) (by omega)
      rw [show s.getD k z = x by rw [List.getD_eq_getElem?_getD, hx]; rfl] at hg
      have : s.any g = true := List.any_eq_true.2 ⟨x, List.mem_of_getElem? hx, hg⟩
      rw [this, show decide ((((0 : Nat)) : Int) ≤ (k : Int)) = true by simp]
    · cases he
theorem ZH {l : List api_Rest} {k : Nat} {x r : api_Rest} (hx : l[k]? = some x) : r ∈ l.take (k + 1) ↔ r ∈ l.take k ∨ r = x := by
  rw [List.take_succ, hx]; simp
theorem Zpk {l : List api_Rest} (hl : l.length ≤ 1000000000) (hc : ∀ r ∈ l, 0 ≤ r.Copies ∧ r.Copies ≤ 1000000000) : loop (t2 (Xu l)) (0, 0) = some (sumC l) := by
  obtain ⟨r, e1, e2⟩ := Jg (body := Xu l) (N := l.length) (fun k c => c = sumC (l.take k)) (fun r => r = sumC l) (fun k c hk hI => by
    obtain ⟨x, hx⟩ := ZT hk
    have b1 := ZiB (l := l.take (k + 1)) fun r hr => hc r (List.mem_of_mem_take hr)
    rw [List.length_take, ZgU hx] at b1
    refine .inl ⟨_, ?_, (ZgU hx).symm⟩
    unfold Xu
    rw [if_pos (by simp; omega), Z2 hx, Option.bind_some, XO hk (by omega), hI, Z7 (by omega) (by omega)]) (fun c hI => ⟨c, by unfold Xu; rw [if_neg (by simp)], by rw [hI, List.take_length]⟩) (s0 := (0 : Int)) (by simp [sumC])
  rw [e1, e2]
theorem ZrX {body : Vector Int 64 → Int → Option ((Vector Int 64 × Int) ⊕ api_Rest)} (x : Vector Int 64) (mk : Vector Int 64 → api_Rest)
    (h1 : ∀ (v : Vector Int 64) (k : Nat), k < 64 → body v k = some (.inl (Qp v k (max (wd v k) (wd x k)), (k : Int) + 1))) (h2 : ∀ v, body v 64 = some (.inr (mk v))) (v0 : Vector Int 64) :
    ∃ V, loop (t2 body) (v0, 0) = some (mk V) ∧ ∀ i, i < 64 → wd V i = max (wd v0 i) (wd x i) := by
  obtain ⟨r, e1, V, e2, e3⟩ := Jg (body := body) (N := 64) (fun k v => ∀ i, i < 64 → wd v i = if i < k then max (wd v0 i) (wd x i) else wd v0 i) (fun r => ∃ V, r = mk V ∧ ∀ i, i < 64 → wd V i = max (wd v0 i) (wd x i)) (fun k v hk hI => .inl ⟨_, h1 v k hk, fun i hi => by
    rw [X6 v hk]
    by_cases hki : k = i
    · subst hki; rw [if_pos rfl, if_pos (by omega), hI k hk, if_neg (by omega)]
    · rw [if_neg hki, hI i hi]
      by_cases hik : i < k
      · rw [if_pos hik, if_pos (by omega)]
      · rw [if_neg hik, if_neg (by omega)]⟩) (fun v hI => ⟨_, h2 v, v, rfl, fun i hi => by rw [hI i hi, if_pos hi]⟩) (s0 := v0) (fun i hi => by rw [if_neg (by omega)])
  exact ⟨V, by rw [e1, e2], e3⟩
theorem Zj3 {l : List api_Rest} {k : Nat} {x : api_Rest} (hx : l[k]? = some x) (hs : x.Sound = true) {V0 V : Vector Int 64} (h0 : Top (l.take k) V0) (hV : ∀ i, i < 64 → wd V i = max (wd V0 i) (wd x.States i)) : Top (l.take (k + 1)) V := fun i hi => by
  obtain ⟨a1, a2, a3⟩ := h0 i hi
  rw [hV i hi]
  refine ⟨fun r hr => ?_, by omega, ?_⟩
  · rcases (ZH hx).1 hr.1 with h | rfl
    · have := a1 r ⟨h, hr.2⟩; omega
    · omega
  · by_cases hle : wd x.States i ≤ wd V0 i
    · rw [show max (wd V0 i) (wd x.States i) = wd V0 i by omega]
      rcases a3 with e | ⟨r, hr, e⟩
      · exact .inl e
      · exact .inr ⟨r, ⟨(ZH hx).2 (.inl hr.1), hr.2⟩, e⟩
    · rw [show max (wd V0 i) (wd x.States i) = wd x.States i by omega]
      exact .inr ⟨x, ⟨(ZH hx).2 (.inr rfl), hs⟩, rfl⟩
theorem Znt : Top [] (Vector.replicate 64 0) := fun i _ => ⟨fun r hr => (List.not_mem_nil hr.1).elim, by rw [ZbC]; exact Int.le_refl 0, Or.inl (ZbC i)⟩
theorem ZmH {l : List api_Rest} {k : Nat} {x : api_Rest} (hx : l[k]? = some x) (hs : x.Sound = false) {V : Vector Int 64} (h0 : Top (l.take k) V) : Top (l.take (k + 1)) V := fun i hi => by
  obtain ⟨a1, a2, a3⟩ := h0 i hi
  refine ⟨fun r hr => ?_, a2, ?_⟩
  · rcases (ZH hx).1 hr.1 with h | rfl
    · exact a1 r ⟨h, hr.2⟩
    · have := hr.2; rw [hs] at this; cases this
  · rcases a3 with e | ⟨r, hr, e⟩
    · exact .inl e
    · exact .inr ⟨r, ⟨(ZH hx).2 (.inl hr.1), hr.2⟩, e⟩
theorem Zii {l : List api_Rest} {k : Nat} {s : api_Rest} (h : Snd (l.take k) s) : Snd l s := ⟨List.mem_of_mem_take h.1, h.2⟩
def Zrd (n C : Int) (l : List api_Rest) (k : Nat) (o : api_Rest) : Prop :=
  ∃ F V, Top (l.take k) V ∧ (((∀ s, ¬ Snd (l.take k) s) ∧ o = ⟨n, Vector.replicate 64 0, Vector.replicate 64 0, false, C, false⟩) ∨
    ((∃ s, Snd (l.take k) s ∧ s.Frame = F) ∧ (∀ s, Snd (l.take k) s → s.Frame = F) ∧ o = ⟨n, F, V, true, C, false⟩))
def SQ (n C : Int) (l : List api_Rest) : (Bool × api_Rest) ⊕ api_Rest → Prop
  | .inl p => p.1 = false ∧ p.2.Number = n ∧ p.2.Copies = C ∧ ∃ r s, Snd l r ∧ Snd l s ∧ r.Frame ≠ s.Frame
  | .inr o => Zrd n C l l.length o
theorem Zn3 {l : List api_Rest} (hl : l.length ≤ 1000000000) (n C : Int) : ∃ b o, Ja ⟨n, Vector.replicate 64 0, Vector.replicate 64 0, false, C, false⟩ l = some (b, o) ∧ o.Number = n ∧ o.Copies = C ∧
    (b = false → ∃ r s, Snd l r ∧ Snd l s ∧ r.Frame ≠ s.Frame) ∧ (b = true → Zrd n C l l.length o) := by
  obtain ⟨r, e1, e2⟩ := Jg (body := Xo l) (N := l.length) (Zrd n C l)
    (SQ n C l) (fun k o hk hI => by
    obtain ⟨x, hx⟩ := ZT hk
    obtain ⟨F, V, ht, hI⟩ := hI
    unfold Xo
    rw [if_pos (by simp; omega), Z2 hx, Option.bind_some, XO hk (by omega)]
    cases hs : x.Sound with
    | false =>
      left
      refine ⟨o, by simp, F, V, ZmH hx hs ht, ?_⟩
      have hsn : ∀ s, Snd (l.take (k + 1)) s ↔ Snd (l.take k) s := fun s => ⟨fun h => ⟨(ZH hx).1 h.1 |>.elim id fun e => (by have := h.2; rw [e, hs] at this; cases this), h.2⟩, fun h => ⟨(ZH hx).2 (.inl h.1), h.2⟩⟩
      simp only [hsn]
      exact hI
    | true =>
      have hxs : Snd (l.take (k + 1)) x := ⟨(ZH hx).2 (.inr rfl), hs⟩
      have hmax : ∀ o : api_Rest, ∃ W, loop (t2 (Qx o x)) (o.States, 0) = some (api_Rest.mk o.Number x.Frame W true o.Copies o.Conflict) ∧ ∀ i, i < 64 → wd W i = max (wd o.States i) (wd x.States i) := fun o =>
        ZrX (body := Qx o x) x.States (fun W => api_Rest.mk o.Number x.Frame W true o.Copies o.Conflict) (fun v k hk => by
          unfold Qx
          rw [if_pos (by simp; omega), Z8 _ hk, Option.bind_some, Z8 _ hk, Option.bind_some, Option.bind_some, XO hk (by omega)]) (fun v => by unfold Qx; rw [if_neg (by simp)]) _
      obtain ⟨W, w1, w2⟩ := hmax o
      rcases hI with ⟨h1, rfl⟩ | ⟨⟨s0, h0, h0'⟩, h1, rfl⟩
      · left
        refine ⟨_, by simp [w1], x.Frame, W, Zj3 hx hs ht (fun i hi => ?_), .inr ⟨⟨x, hxs, rfl⟩, fun s hs' => ?_, rfl⟩⟩
        · rw [w2 i hi]
          have := ht i hi
          rcases this.2.2 with e | ⟨r, hr, _⟩
          · rw [e, ZbC]
          · exact (h1 r hr).elim
        · rcases (ZH hx).1 hs'.1 with h | rfl
          · exact (h1 s ⟨h, hs'.2⟩).elim
          · rfl
      · by_cases hf : F = x.Frame
        · left
          subst hf
          refine ⟨_, by simp [w1], x.Frame, W, Zj3 hx hs ht w2, .inr ⟨⟨x, hxs, rfl⟩, fun s hs' => ?_, rfl⟩⟩
          rcases (ZH hx).1 hs'.1 with h | rfl
          · exact h1 s ⟨h, hs'.2⟩
          · rfl
        · right
          exact ⟨.inl (false, ⟨n, F, V, true, C, false⟩), by simp [hf], rfl, rfl, rfl, s0, x, Zii h0, Zii hxs, by rw [h0']; exact hf⟩)
    (fun o hI => ⟨.inr o, by unfold Xo; rw [if_neg (by simp)], hI⟩) (s0 := ⟨n, Vector.replicate 64 0, Vector.replicate 64 0, false, C, false⟩)
    ⟨Vector.replicate 64 0, Vector.replicate 64 0, by rw [List.take_zero]; exact Znt, .inl ⟨fun s h => (List.not_mem_nil (by rw [List.take_zero] at h; exact h.1)).elim, rfl⟩⟩
  unfold Ja
  rw [e1, Option.bind_some]
  cases r with
  | inl p =>
    obtain ⟨b, o⟩ := p
    obtain ⟨rfl, h2, h3, h4⟩ := e2
    exact ⟨false, o, rfl, h2, h3, fun _ => h4, fun h => by cases h⟩
  | inr o =>
    refine ⟨true, o, rfl, ?_, ?_, (fun h => by cases h), fun _ => e2⟩
    · obtain ⟨F, V, _, ⟨_, rfl⟩ | ⟨_, _, rfl⟩⟩ := e2 <;> rfl
    · obtain ⟨F, V, _, ⟨_, rfl⟩ | ⟨_, _, rfl⟩⟩ := e2 <;> rfl
end Go.Vx

namespace Go.Vx
open Go Go.RowKit
def ZlR (l : List api_Rest) (i k : Nat) (f s : Int) (d : Bool) : Prop :=
  ((∀ r ∈ l.take k, wd r.States i = 0) ∧ f = 0 ∧ s = 0 ∧ d = false) ∨
  ((∃ r ∈ l.take k, wd r.States i ≠ 0 ∧ wd r.Frame i = f) ∧ s = 1 ∧ (d = false ↔ ∀ r ∈ l.take k, wd r.States i ≠ 0 → wd r.Frame i = f))
theorem Zn8 {l : List api_Rest} {i k : Nat} {f s : Int} {d : Bool} {x : api_Rest} (hx : l[k]? = some x) (h0 : wd x.States i = 0) (h : ZlR l i k f s d) : ZlR l i (k + 1) f s d := by
  rcases h with ⟨h1, h2⟩ | ⟨⟨r, hr, h1⟩, h2, h3⟩
  · exact .inl ⟨fun r hr => ((ZH hx).1 hr).elim (h1 r) fun e => by rw [e]; exact h0, h2⟩
  · refine .inr ⟨⟨r, (ZH hx).2 (.inl hr), h1⟩, h2, h3.trans ⟨fun h r hr hn => ?_, fun h r hr hn => h r ((ZH hx).2 (.inl hr)) hn⟩⟩
    rcases (ZH hx).1 hr with h' | rfl
    · exact h r h' hn
    · exact (hn h0).elim
theorem ZnJ {l : List api_Rest} {i k : Nat} {f s : Int} {d : Bool} {x : api_Rest} (hx : l[k]? = some x) (h0 : wd x.States i ≠ 0) (h : ZlR l i k f s d) :
    ZlR l i (k + 1) (wd x.Frame i) 1 (d || ((!decide (s = 0)) && (!decide (f = wd x.Frame i)))) := by
  right
  refine ⟨⟨x, (ZH hx).2 (.inr rfl), h0, rfl⟩, rfl, ?_⟩
  rcases h with ⟨h1, rfl, rfl, rfl⟩ | ⟨⟨r0, hr0, hn0, e0⟩, rfl, h3⟩
  · simp only [Bool.false_or, decide_true, Bool.not_true, Bool.false_and, true_iff]
    intro r hr hn
    rcases (ZH hx).1 hr with h' | rfl
    · exact (hn (h1 r h')).elim
    · rfl
  · simp only [show decide ((1 : Int) = 0) = false from rfl, Bool.not_false, Bool.true_and, Bool.or_eq_false_iff, Bool.not_eq_false', decide_eq_true_eq]
    constructor
    · rintro ⟨hd, e⟩ r hr hn
      rcases (ZH hx).1 hr with h' | rfl
      · rw [h3.1 hd r h' hn, e]
      · rfl
    · intro h
      have e1 := h r0 ((ZH hx).2 (.inl hr0)) hn0
      refine ⟨h3.2 fun r hr hn => ?_, by rw [← e0, e1]⟩
      rw [h r ((ZH hx).2 (.inl hr)) hn, ← e0, e1]
theorem Zop {l : List api_Rest} {i : Nat} {f s : Int} {d : Bool} (h : ZlR l i l.length f s d) : (Agr l i f ∧ s = 1 ∧ d = false) ∨ ((∀ w, ¬ Agr l i w) ∧ (d = true ∨ (f = 0 ∧ s = 0 ∧ d = false))) := by
  unfold ZlR at h
  rw [List.take_length] at h
  rcases h with ⟨h1, h2⟩ | ⟨⟨r, hr, h1, h1'⟩, h2, h3⟩
  · exact .inr ⟨fun w ⟨⟨r, hr, hn, _⟩, _⟩ => hn (h1 r hr), .inr h2⟩
  · cases d with
    | false => exact .inl ⟨⟨⟨r, hr, h1, h1'⟩, h3.1 rfl⟩, h2, rfl⟩
    | true =>
      refine .inr ⟨fun w ⟨_, hw⟩ => ?_, .inl rfl⟩
      have : (true : Bool) = false := h3.2 fun r' hr' hn => by rw [hw r' hr' hn, ← h1', hw r hr h1]
      cases this
theorem Zm9 {l : List api_Rest} (hl : l.length ≤ 1000000000) {n C : Int} {F S : Vector Int 64} {i : Nat} (hi : i < 64) (hF : wd F i = 0) (hS : wd S i = 0) :
    ∃ F' S' d, loop (t3 (Q7 l (i : Int))) (⟨n, F, S, false, C, false⟩, false, 0) = some (⟨n, F', S', false, C, false⟩, d) ∧ (∀ j, j ≠ i → wd F' j = wd F j ∧ wd S' j = wd S j) ∧ ZlR l i l.length (wd F' i) (wd S' i) d := by
  obtain ⟨r, e1, F', S', d, rfl, e2, e3⟩ := ZdA (body := Q7 l (i : Int)) (N := l.length)
    (fun k o d => ∃ F' S', o = ⟨n, F', S', false, C, false⟩ ∧ (∀ j, j ≠ i → wd F' j = wd F j ∧ wd S' j = wd S j) ∧ ZlR l i k (wd F' i) (wd S' i) d)
    (fun r => ∃ F' S' d, r = (⟨n, F', S', false, C, false⟩, d) ∧ (∀ j, j ≠ i → wd F' j = wd F j ∧ wd S' j = wd S j) ∧ ZlR l i l.length (wd F' i) (wd S' i) d)
    (by
      rintro k o d hk ⟨F', S', rfl, h1, h2⟩
      obtain ⟨x, hx⟩ := ZT hk
      left
      unfold Q7
      rw [if_pos (by simp; omega), Z2 hx, Option.bind_some, Z8 _ hi, Option.bind_some, XO hk (by omega)]
      by_cases h0 : wd x.States i = 0
      · rw [if_pos (by simpa using h0)]
        exact ⟨_, _, rfl, F', S', rfl, h1, Zn8 hx h0 h2⟩
      · rw [if_neg (by simpa using h0)]
        have g : ∀ (b : Bool) (v : Vector Int 64), gd b 0 (ZA v (i : Int)) = some (if b = true then wd v i else 0) := fun b v => by
          cases b
          · rfl
          · rw [Zdm, Z8 _ hi]; rfl
        rw [g, Option.bind_some, g, Option.bind_some, g, Option.bind_some, Z8 _ hi, Option.bind_some, Z8 _ hi, Option.bind_some, Z8 _ hi, Option.bind_some]
        refine ⟨_, _, rfl, _, _, rfl, fun j hj => ?_, ?_⟩
        · rw [X6 _ hi, X6 _ hi, if_neg (Ne.symm hj), if_neg (Ne.symm hj)]; exact h1 j hj
        · rw [X6 _ hi, X6 _ hi, if_pos rfl, if_pos rfl]
          have := ZnJ hx h0 h2
          cases d with
          | true => simpa using this
          | false =>
            by_cases hs : wd S' i = 0
            · simpa [hs] using this
            · simpa [hs] using this)
    (by
      rintro o d ⟨F', S', rfl, h1, h2⟩
      exact ⟨_, by unfold Q7; rw [if_neg (by simp)], F', S', d, rfl, h1, h2⟩)
    (a0 := ⟨n, F, S, false, C, false⟩) (b0 := false) ⟨F, S, rfl, fun j _ => ⟨rfl, rfl⟩, .inl ⟨fun r hr => by rw [List.take_zero] at hr; exact (List.not_mem_nil hr).elim, hF, hS, rfl⟩⟩
  exact ⟨F', S', d, e1, e2, e3⟩
theorem ZnN {l : List api_Rest} (hl : l.length ≤ 1000000000) (n C : Int) : ∃ F S, JO ⟨n, Vector.replicate 64 0, Vector.replicate 64 0, false, C, false⟩ l = some ⟨n, F, S, false, C, false⟩ ∧ Parts4 l F S := by
  obtain ⟨r, e1, F, S, rfl, e2⟩ := Jg (body := Xr l) (N := 64)
    (fun k o => ∃ F S, o = ⟨n, F, S, false, C, false⟩ ∧ (∀ j, j < k → (Agr l j (wd F j) ∧ wd S j = 1) ∨ ((∀ w, ¬ Agr l j w) ∧ wd F j = 0 ∧ wd S j = 0)) ∧ ∀ j, k ≤ j → wd F j = 0 ∧ wd S j = 0)
    (fun r => ∃ F S, r = ⟨n, F, S, false, C, false⟩ ∧ Parts4 l F S)
    (by
      rintro k o hk ⟨F, S, rfl, h1, h2⟩
      left
      obtain ⟨F', S', d, g1, g2, g3⟩ := Zm9 hl (n := n) (C := C) hk (h2 k (Nat.le_refl _)).1 (h2 k (Nat.le_refl _)).2
      unfold Xr
      rw [if_pos (by simp; omega), g1, Option.bind_some, Zc8, XO hk (by omega)]
      have hag := Zop g3
      cases d with
      | true =>
        rw [if_pos rfl, Z8 _ hk, Option.bind_some, Z8 _ hk, Option.bind_some]
        refine ⟨_, rfl, _, _, rfl, fun j hj => ?_, fun j hj => ?_⟩
        · rw [X6 _ hk, X6 _ hk]
          by_cases hjk : k = j
          · subst hjk
            rw [if_pos rfl, if_pos rfl]
            rcases hag with ⟨_, _, h⟩ | ⟨h, _⟩
            · cases h
            · exact .inr ⟨h, rfl, rfl⟩
          · rw [if_neg hjk, if_neg hjk, (g2 j (Ne.symm hjk)).1, (g2 j (Ne.symm hjk)).2]; exact h1 j (by omega)
        · rw [X6 _ hk, X6 _ hk, if_neg (by omega), if_neg (by omega), (g2 j (by omega)).1, (g2 j (by omega)).2]; exact h2 j (by omega)
      | false =>
        rw [if_neg (by simp)]
        refine ⟨_, rfl, _, _, rfl, fun j hj => ?_, fun j hj => ?_⟩
        · by_cases hjk : k = j
          · subst hjk
            rcases hag with ⟨h, h', _⟩ | ⟨h, h' | ⟨h', h'', _⟩⟩
            · exact .inl ⟨h, h'⟩
            · cases h'
            · exact .inr ⟨h, h', h''⟩
          · rw [(g2 j (Ne.symm hjk)).1, (g2 j (Ne.symm hjk)).2]; exact h1 j (by omega)
        · rw [(g2 j (by omega)).1, (g2 j (by omega)).2]; exact h2 j (by omega))
    (by
      rintro o ⟨F, S, rfl, h1, _⟩
      exact ⟨_, by unfold Xr; rw [if_neg (by simp)], F, S, rfl, h1⟩)
    (s0 := ⟨n, Vector.replicate 64 0, Vector.replicate 64 0, false, C, false⟩) ⟨_, _, rfl, fun j hj => by omega, fun j _ => ⟨ZbC j, ZbC j⟩⟩
  exact ⟨F, S, e1, e2⟩
theorem Zg0 {n : Int} {l : List api_Rest} (h : MOK n l) {F S : Vector Int 64} (hp : Parts4 l F S) (i : Nat) : 0 ≤ wd F i ∧ wd F i ≤ 4095 := by
  by_cases hi : i < 64
  · rcases hp i hi with ⟨⟨⟨r, hr, _, e⟩, _⟩, _⟩ | ⟨_, e, _⟩
    · rw [← e]; exact h.nar r hr i
    · omega
  · rw [ZmW _ (by omega)]; omega
theorem Zrk (v : Vector Int 64) (c : Int) : (v.toList.any fun s => decide (s = c) || decide (s = c)) = true ↔ ∃ i, i < 64 ∧ wd v i = c := by
  rw [Zna v (fun s => decide (s = c) || decide (s = c))]; simp
theorem ZlQ (v : Vector Int 64) (c : Int) : (!v.toList.any fun s => !decide (s = c)) = true ↔ ∀ i, i < 64 → wd v i = c := by
  have := Zna v (fun s => !decide (s = c))
  cases hb : v.toList.any fun s => !decide (s = c) with
  | true =>
    obtain ⟨i, hi, h⟩ := this.1 hb
    simp at h
    simp
    exact ⟨i, hi, h⟩
  | false =>
    simp only [Bool.not_false, true_iff]
    intro i hi
    exact Classical.byContradiction fun hc => by
      have := this.2 ⟨i, hi, by simpa using hc⟩
      rw [hb] at this; cases this
theorem ZpX {n : Int} {l : List api_Rest} (h : MOK n l) : ∃ o, XX l = some o ∧ MG n l o := by
  obtain ⟨x, hx⟩ := ZT (xs := l) (k := 0) (List.length_pos_iff.2 h.ne)
  have hxn : x.Number = n := h.num x (List.mem_of_getElem? hx)
  have hb := ZiB h.cop
  have hlen := h.len
  have hx0 : idx l 0 = some x := Z2 (k := 0) hx
  unfold XX JN
  rw [hx0, Option.bind_some, Zpk h.len h.cop, Option.bind_some, QN, Zn1 l h.len (fun z => z.Conflict), Option.bind_some, hxn]
  obtain ⟨b, o, e1, e2, e3, e4, e5⟩ := Zn3 h.len n (sumC l)
  rw [e1, Option.bind_some]
  simp only
  cases hc : (l.any fun z => z.Conflict) with
  | true =>
    rw [if_pos (by simp)]
    obtain ⟨r, hr, hrc⟩ := List.any_eq_true.1 hc
    exact ⟨_, rfl, by rw [e2, e3]; exact .clash (.inl ⟨r, hr, hrc⟩)⟩
  | false =>
    cases b with
    | false =>
      rw [if_pos (by simp)]
      exact ⟨_, rfl, by rw [e2, e3]; exact .clash (.inr (e4 rfl))⟩
    | true =>
      rw [if_neg (by simp)]
      obtain ⟨F, V, ht, hI⟩ := e5 rfl
      rw [List.take_length] at ht hI
      have hnc : ¬ ∃ r ∈ l, r.Conflict = true := fun ⟨r, hr, hrc⟩ => by
        have := List.any_eq_true.2 ⟨r, hr, hrc⟩
        rw [hc] at this; cases this
      rcases hI with ⟨h1, rfl⟩ | ⟨⟨s, hs, hsF⟩, h1, rfl⟩
      · have hcl : ¬ Clash l := fun hcl => hcl.elim hnc fun ⟨r, s, hr, _⟩ => h1 r hr
        rw [if_pos (by simp)]
        obtain ⟨F, S, p1, p2⟩ := ZnN h.len n (sumC l)
        have hN := Zg0 h p2
        rw [p1, Option.bind_some, Zrl, Option.bind_some]
        have hso : Xj F n = some (ZmK F n) := Zk7 (fun i => ⟨(hN i).1, by have := (hN i).2; omega⟩) (hN 1).2 (hN 2).2 n
        simp only
        have hpo : MG n l (prtOut n (sumC l) F S) := .parts hcl h1 p2
        have hany := Zrk S 0
        cases ha : (S.toList.any fun s => decide (s = 0) || decide (s = 0)) with
        | true =>
          obtain ⟨i, hi, h0⟩ := hany.1 ha
          have hne : ¬ ((∀ i, i < 64 → wd S i = 1) ∧ ZmK F n = true) := fun hh => by have := hh.1 i hi; omega
          unfold prtOut at hpo
          rw [if_neg hne] at hpo
          refine ⟨_, ?_, hpo⟩
          simp
        | false =>
          have hall : ∀ i, i < 64 → wd S i = 1 := fun i hi => by
            rcases p2 i hi with ⟨_, e⟩ | ⟨_, _, e⟩
            · exact e
            · have := hany.2 ⟨i, hi, e⟩; rw [ha] at this; cases this
          simp only [Bool.not_false, show ((true : Bool) == true) = true from rfl, Zdm]
          rw [hso, Option.bind_some]
          cases hsb : ZmK F n with
          | true =>
            rw [if_pos (by simp), Zj9, Option.bind_some, Option.bind_some, QN]
            simp only [show ((true : Bool) == true) = true from rfl, Zdm]
            rw [Zpc, Option.bind_some]
            have : (!((Vector.replicate 64 (3 : Int)).toList.any fun s => !decide (s = 3))) = true := (ZlQ _ 3).2 fun i hi => Zm1 3 hi
            simp only at this ⊢
            rw [this, if_pos (by simp)]
            unfold prtOut at hpo
            rw [if_pos ⟨hall, hsb⟩] at hpo
            exact ⟨_, rfl, hpo⟩
          | false =>
            rw [if_neg (by simp), Option.bind_some, QN]
            unfold prtOut at hpo
            rw [if_neg (fun hh => by rw [hsb] at hh; cases hh.2)] at hpo
            exact ⟨_, by simp, hpo⟩
      · have hcl : ¬ Clash l := fun hcl => hcl.elim hnc fun ⟨r, s, hr, hs, hne⟩ => hne (by rw [h1 r hr, h1 s hs])
        rw [if_neg (by simp), Option.bind_some, QN]
        have hmo : MG n l (sndOut n (sumC l) s.Frame V) := .sound hcl hs ht
        rw [hsF] at hmo
        simp only [show ((true : Bool) == true) = true from rfl, Zdm]
        rw [Zpc, Option.bind_some]
        have hall := ZlQ V 3
        unfold sndOut at hmo
        cases ha : (!V.toList.any fun s => !decide (s = 3)) with
        | true =>
          rw [if_pos (hall.1 ha)] at hmo
          exact ⟨_, by simp, hmo⟩
        | false =>
          rw [if_neg (fun hh => by rw [hall.2 hh] at ha; cases ha)] at hmo
          exact ⟨_, by simp, hmo⟩
end Go.Vx

namespace Go.Vx
open Go Go.RowKit
theorem Zo5 {l : List api_Rest} (hl : l.length ≤ 1000000000) {i : Nat} (hi : i < 64) : ∃ w b, ZdF l (i : Int) = some (w, b) ∧ ((b = true ∧ Agr l i w) ∨ (b = false ∧ ∀ w, ¬ Agr l i w)) := by
  obtain ⟨r, e1, e2⟩ := ZdA (body := Zbb l (i : Int)) (N := l.length)
    (fun k w b => ((∀ r ∈ l.take k, wd r.States i = 0) ∧ b = false) ∨ (b = true ∧ (∃ r ∈ l.take k, wd r.States i ≠ 0 ∧ wd r.Frame i = w) ∧ ∀ r ∈ l.take k, wd r.States i ≠ 0 → wd r.Frame i = w))
    (fun r => match r with | .inl p => p.2 = false ∧ ∀ w, ¬ Agr l i w | .inr p => (p.2 = true ∧ Agr l i p.1) ∨ (p.2 = false ∧ ∀ w, ¬ Agr l i w))
    (by
      intro k w b hk hI
      obtain ⟨x, hx⟩ := ZT hk
      unfold Zbb
      rw [if_pos (by simp; omega), Z2 hx, Option.bind_some, Z8 _ hi, Option.bind_some, XO hk (by omega)]
      by_cases h0 : wd x.States i = 0
      · rw [if_pos (by simpa using h0)]
        left
        refine ⟨_, _, rfl, ?_⟩
        rcases hI with ⟨h1, h2⟩ | ⟨h1, ⟨r, hr, h2⟩, h3⟩
        · exact .inl ⟨fun r hr => ((ZH hx).1 hr).elim (h1 r) fun e => by rw [e]; exact h0, h2⟩
        · refine .inr ⟨h1, ⟨r, (ZH hx).2 (.inl hr), h2⟩, fun r hr hn => ?_⟩
          rcases (ZH hx).1 hr with h | rfl
          · exact h3 r h hn
          · exact (hn h0).elim
      · rw [if_neg (by simpa using h0)]
        have hxm : x ∈ l.take (k + 1) := (ZH hx).2 (.inr rfl)
        rcases hI with ⟨h1, rfl⟩ | ⟨rfl, ⟨r, hr, hn, h2⟩, h3⟩
        · left
          rw [show ((false : Bool) == true) = false from rfl, Zqc, Option.bind_some, if_neg (by simp), Z8 _ hi, Option.bind_some]
          refine ⟨_, _, rfl, .inr ⟨rfl, ⟨x, hxm, h0, rfl⟩, fun r hr hn => ?_⟩⟩
          rcases (ZH hx).1 hr with h | rfl
          · exact (hn (h1 r h)).elim
          · rfl
        · rw [Zcu, Z8 _ hi, Option.bind_some]
          by_cases he : w = wd x.Frame i
          · left
            rw [if_neg (by simp [he]), Option.bind_some]
            refine ⟨_, _, rfl, .inr ⟨rfl, ⟨x, hxm, h0, rfl⟩, fun r' hr' hn' => ?_⟩⟩
            rcases (ZH hx).1 hr' with h | rfl
            · rw [h3 r' h hn', he]
            · rfl
          · right
            rw [if_pos (by simp [he])]
            refine ⟨_, rfl, rfl, fun v ⟨_, hv⟩ => he ?_⟩
            rw [← h2, hv r (List.mem_of_mem_take hr) hn, hv x (List.mem_of_mem_take hxm) h0])
    (by
      intro w b hI
      rw [List.take_length] at hI
      unfold Zbb
      rw [if_neg (by simp)]
      refine ⟨_, rfl, ?_⟩
      rcases hI with ⟨h1, rfl⟩ | ⟨rfl, h2⟩
      · exact .inr ⟨rfl, fun w ⟨⟨r, hr, hn, _⟩, _⟩ => hn (h1 r hr)⟩
      · exact .inl ⟨rfl, h2⟩)
    (a0 := (0 : Int)) (b0 := false) (.inl ⟨fun r hr => by rw [List.take_zero] at hr; exact (List.not_mem_nil hr).elim, rfl⟩)
  unfold ZdF
  rw [e1, Option.bind_some]
  cases r with
  | inl p => exact ⟨p.1, p.2, rfl, .inr e2⟩
  | inr p => exact ⟨p.1, p.2, rfl, e2⟩
def Zp9 (n : Int) (l : List api_Rest) (k : Nat) (o : api_Rest) : Prop :=
  ∃ F V b, Top (l.take k) V ∧ o.Number = n ∧ o.Copies = sumC (l.take k) ∧ o.Conflict = b ∧ (b = true → Clash l) ∧
    (((∀ s, ¬ Snd (l.take k) s) ∧ o.Sound = false ∧ o.Frame = Vector.replicate 64 0 ∧ o.States = Vector.replicate 64 0 ∧ (b = false → ∀ r ∈ l.take k, r.Conflict = false)) ∨
     (o.Sound = true ∧ o.Frame = F ∧ o.States = V ∧ (∃ s, Snd (l.take k) s ∧ s.Frame = F) ∧ (b = false → (∀ s, Snd (l.take k) s → s.Frame = F) ∧ ∀ r ∈ l.take k, r.Conflict = false)))
theorem Zmp {n : Int} {l : List api_Rest} (h : MOK n l) : ∃ o, loop (t2 (ZaZ l)) (⟨n, Vector.replicate 64 0, Vector.replicate 64 0, false, 0, false⟩, 0) = some o ∧ Zp9 n l l.length o := by
  have hlen := h.len
  refine Jg (body := ZaZ l) (N := l.length) (Zp9 n l) (Zp9 n l l.length) (fun k o hk hI => ?_) (fun o hI => ⟨o, by unfold ZaZ; rw [if_neg (by simp)], hI⟩) ?_
  · obtain ⟨x, hx⟩ := ZT hk
    have hxl : x ∈ l := List.mem_of_getElem? hx
    have b1 := ZiB (l := l.take (k + 1)) fun r hr => h.cop r (List.mem_of_mem_take hr)
    rw [List.length_take, ZgU hx] at b1
    obtain ⟨F, V, b, ht, hn, hC, hb, hcl, hI⟩ := hI
    obtain ⟨oN, oF, oS, oD, oC, oX⟩ := o
    simp only at hn hC hb hI
    subst hn hb
    have hCx : i64 (oC + x.Copies) = sumC (l.take (k + 1)) := by rw [hC, ZgU hx, Z7 (by omega) (by omega)]
    left
    unfold ZaZ
    rw [if_pos (by simp; omega), Z2 hx, Option.bind_some, XO hk (by omega)]
    simp only [hCx]
    cases hs : x.Sound with
    | false =>
      refine ⟨_, by simp; rfl, F, V, oX || x.Conflict, ZmH hx hs ht, rfl, rfl, rfl, fun hh => ?_, ?_⟩
      · rcases Bool.or_eq_true_iff.1 hh with h1 | h1
        · exact hcl h1
        · exact .inl ⟨x, hxl, h1⟩
      · have hsn : ∀ s, Snd (l.take (k + 1)) s ↔ Snd (l.take k) s := fun s => ⟨fun h => ⟨(ZH hx).1 h.1 |>.elim id fun e => (by have := h.2; rw [e, hs] at this; cases this), h.2⟩, fun h => ⟨(ZH hx).2 (.inl h.1), h.2⟩⟩
        have hcf : (oX || x.Conflict) = false → (oX = false → ∀ r ∈ l.take k, r.Conflict = false) → ∀ r ∈ l.take (k + 1), r.Conflict = false := fun h1 h2 r hr => by
          simp only [Bool.or_eq_false_iff] at h1
          rcases (ZH hx).1 hr with h' | rfl
          · exact h2 h1.1 r h'
          · exact h1.2
        simp only [hsn]
        rcases hI with ⟨h1, h2, h3, h4, h5⟩ | ⟨h1, h2, h3, h4, h5⟩
        · exact .inl ⟨h1, h2, h3, h4, fun hh => hcf hh h5⟩
        · exact .inr ⟨h1, h2, h3, h4, fun hh => ⟨(h5 (by simp only [Bool.or_eq_false_iff] at hh; exact hh.1)).1, hcf hh fun h6 => (h5 h6).2⟩⟩
    | true =>
      have hxs : Snd (l.take (k + 1)) x := ⟨(ZH hx).2 (.inr rfl), hs⟩
      have hmax : ∀ cf : Bool, ∃ W, loop (t2 (XT ⟨oN, oF, oS, oD, oC, oX⟩ x cf)) (oS, 0) = some (api_Rest.mk oN x.Frame W true (sumC (l.take (k + 1))) cf) ∧ ∀ i, i < 64 → wd W i = max (wd oS i) (wd x.States i) := fun cf =>
        ZrX (body := XT ⟨oN, oF, oS, oD, oC, oX⟩ x cf) x.States (fun W => api_Rest.mk oN x.Frame W true (sumC (l.take (k + 1))) cf) (fun v k hk => by
          unfold XT
          rw [if_pos (by simp; omega), Z8 _ hk, Option.bind_some, Z8 _ hk, Option.bind_some, Option.bind_some, XO hk (by omega)]) (fun v => by unfold XT; rw [if_neg (by simp)]; simp only [hCx]) _
      have fin : ∀ cf : Bool, (cf = true → Clash l) → (cf = false → oX = false ∧ x.Conflict = false ∧ (oD = true → oF = x.Frame)) → ∃ W, loop (t2 (XT ⟨oN, oF, oS, oD, oC, oX⟩ x cf)) (oS, 0) = some (api_Rest.mk oN x.Frame W true (sumC (l.take (k + 1))) cf) ∧ Zp9 oN l (k + 1) (api_Rest.mk oN x.Frame W true (sumC (l.take (k + 1))) cf) := fun cf hc1 hc2 => by
        obtain ⟨W, w1, w2⟩ := hmax cf
        refine ⟨W, w1, x.Frame, W, cf, Zj3 hx hs ht (fun i hi => ?_), rfl, rfl, rfl, hc1, .inr ⟨rfl, rfl, rfl, ⟨x, hxs, rfl⟩, fun hcf => ?_⟩⟩
        · rw [w2 i hi]
          rcases hI with ⟨h1, h2, h3, h4, h5⟩ | ⟨h1, h2, h3, h4, h5⟩
          · have := ht i hi
            rcases this.2.2 with e | ⟨r, hr, _⟩
            · rw [e, h4, ZbC]
            · exact (h1 r hr).elim
          · rw [h3]
        · obtain ⟨g1, g2, g3⟩ := hc2 hcf
          rcases hI with ⟨h1, h2, h3, h4, h5⟩ | ⟨h1, h2, h3, h4, h5⟩
          · refine ⟨fun s hs' => ?_, fun r hr => ?_⟩
            · rcases (ZH hx).1 hs'.1 with h | rfl
              · exact (h1 s ⟨h, hs'.2⟩).elim
              · rfl
            · rcases (ZH hx).1 hr with h' | rfl
              · exact h5 g1 r h'
              · exact g2
          · refine ⟨fun s hs' => ?_, fun r hr => ?_⟩
            · rcases (ZH hx).1 hs'.1 with h | rfl
              · rw [(h5 g1).1 s ⟨h, hs'.2⟩, ← h2, g3 h1]
              · rfl
            · rcases (ZH hx).1 hr with h' | rfl
              · exact (h5 g1).2 r h'
              · exact g2
      by_cases hne : (oD && !decide (oF = x.Frame)) = true
      · simp only [Bool.and_eq_true, Bool.not_eq_true', decide_eq_false_iff_not] at hne
        have hcl' : Clash l := by
          rcases hI with ⟨h1, h2, _⟩ | ⟨h1, h2, h3, ⟨s, hs1, hs2⟩, h5⟩
          · rw [h2] at hne; cases hne.1
          · exact .inr ⟨s, x, Zii hs1, Zii hxs, by rw [hs2, ← h2]; exact hne.2⟩
        obtain ⟨W, w1, w2⟩ := fin true (fun _ => hcl') (fun hh => by cases hh)
        obtain ⟨hd, hf⟩ := hne
        subst hd
        refine ⟨_, ?_, w2⟩
        simp only [Bool.not_true, Bool.false_eq_true, if_false]
        rw [if_pos (by simp [hf]), Option.bind_some, QN, w1, Option.bind_some]
        rfl
      · obtain ⟨W, w1, w2⟩ := fin (oX || x.Conflict) (fun hh => by
          rcases Bool.or_eq_true_iff.1 hh with h1 | h1
          · exact hcl h1
          · exact .inl ⟨x, hxl, h1⟩) (fun hh => by
          simp only [Bool.or_eq_false_iff] at hh
          refine ⟨hh.1, hh.2, fun hd => ?_⟩
          subst hd
          simpa using hne)
        refine ⟨_, ?_, w2⟩
        simp only [Bool.not_true, Bool.false_eq_true, if_false]
        rw [if_neg hne, Option.bind_some, QN, w1, Option.bind_some]
        rfl
  · exact ⟨Vector.replicate 64 0, Vector.replicate 64 0, false, by rw [List.take_zero]; exact Znt, rfl, by rw [List.take_zero]; rfl, rfl, (fun hh => by cases hh), .inl ⟨fun s hs => (List.not_mem_nil (by rw [List.take_zero] at hs; exact hs.1)).elim, rfl, rfl, rfl, fun _ r hr => by rw [List.take_zero] at hr; exact (List.not_mem_nil hr).elim⟩⟩
end Go.Vx

namespace Go.Vx
open Go Go.RowKit
theorem Zoa (r : api_Rest) : Zc2 r = some (!r.States.toList.any fun s => !decide (s = 3)) := by
  have h := ZiO (body := t1 (JU r)) (fun k => (k : Int)) (fun k => if wd r.States k = 3 then none else some false) (fun e => (.inl e : Bool ⊕ Unit)) (.inr ()) (b := 64) (fun k hk => by
    have eb : JU r (k : Int) = if wd r.States k = 3 then some (.inl ((k : Int) + 1)) else some (.inr (.inl false)) := by
      unfold JU
      rw [if_pos (by simp; omega), Z8 _ hk, Option.bind_some, XO hk (by omega)]
      by_cases h3 : wd r.States k = 3
      · rw [if_neg (by simp [h3]), if_pos h3]
      · rw [if_pos (by simp [h3]), if_neg h3]
    rw [QN, eb]
    by_cases h3 : wd r.States k = 3
    · exact .inr ⟨by rw [if_pos h3], by rw [if_pos h3]; push_cast; rfl⟩
    · exact .inl ⟨false, by rw [if_neg h3], by rw [if_neg h3]⟩) (by
    rw [QN]
    unfold JU
    rw [if_neg (by simp)])
  have hall := ZlQ r.States 3
  unfold Zc2
  have e0 : (0 : Int) = ((0 : Nat) : Int) := rfl
  rw [e0, h, Option.bind_some]
  cases hf : (List.range' 0 64).findSome? (fun k => if wd r.States k = 3 then none else some false) with
  | none =>
    have : (!r.States.toList.any fun s => !decide (s = 3)) = true := hall.2 fun i hi => by
      have := Zhs hf i hi
      by_cases h3 : wd r.States i = 3
      · exact h3
      · rw [if_neg h3] at this; cases this
    rw [this]; rfl
  | some e =>
    obtain ⟨k, hk, he⟩ := List.exists_of_findSome?_eq_some hf
    simp only [List.mem_range'_1] at hk
    have : (!r.States.toList.any fun s => !decide (s = 3)) = false := by
      cases hb : (!r.States.toList.any fun s => !decide (s = 3)) with
      | false => rfl
      | true => have := hall.1 hb k (by omega); rw [if_pos this] at he; cases he
    rw [this]
    split at he
    · cases he
    · cases he; rfl
theorem ZpD {l : List api_Rest} (hl : l.length ≤ 1000000000) (n C : Int) : ∃ F S b, loop (t3 (ZaX l)) (⟨n, Vector.replicate 64 0, Vector.replicate 64 0, false, C, false⟩, true, 0) = some (⟨n, F, S, false, C, false⟩, b) ∧ Parts4 l F S ∧ (b = true ↔ ∀ i, i < 64 → wd S i = 1) := by
  obtain ⟨r, e1, F, S, b, rfl, e2, e3⟩ := ZdA (body := ZaX l) (N := 64)
    (fun k o b => ∃ F S, o = ⟨n, F, S, false, C, false⟩ ∧ (∀ j, j < k → (Agr l j (wd F j) ∧ wd S j = 1) ∨ ((∀ w, ¬ Agr l j w) ∧ wd F j = 0 ∧ wd S j = 0)) ∧ (∀ j, k ≤ j → wd F j = 0 ∧ wd S j = 0) ∧ (b = true ↔ ∀ i, i < k → wd S i = 1))
    (fun r => ∃ F S b, r = (⟨n, F, S, false, C, false⟩, b) ∧ Parts4 l F S ∧ (b = true ↔ ∀ i, i < 64 → wd S i = 1))
    (by
      rintro k o b hk ⟨F, S, rfl, h1, h2, h3⟩
      left
      obtain ⟨w, c, g1, g2⟩ := Zo5 hl hk
      unfold ZaX
      rw [if_pos (by simp; omega), g1, Option.bind_some, XO hk (by omega)]
      rcases g2 with ⟨rfl, g2⟩ | ⟨rfl, g2⟩
      · rw [if_pos rfl, Z8 _ hk, Option.bind_some, Z8 _ hk, Option.bind_some]
        refine ⟨_, _, rfl, _, _, rfl, fun j hj => ?_, fun j hj => ?_, ?_⟩
        · rw [X6 _ hk, X6 _ hk]
          by_cases hjk : k = j
          · subst hjk; rw [if_pos rfl, if_pos rfl]; exact .inl ⟨g2, rfl⟩
          · rw [if_neg hjk, if_neg hjk]; exact h1 j (by omega)
        · rw [X6 _ hk, X6 _ hk, if_neg (by omega), if_neg (by omega)]; exact h2 j (by omega)
        · rw [Bool.and_true, h3]
          constructor
          · intro hh i hi
            rw [X6 _ hk]
            split
            · rfl
            · exact hh i (by omega)
          · intro hh i hi
            have := hh i (by omega)
            rw [X6 _ hk, if_neg (by omega)] at this
            exact this
      · rw [if_neg (by simp)]
        refine ⟨_, _, rfl, _, _, rfl, fun j hj => ?_, fun j hj => h2 j (by omega), ?_⟩
        · by_cases hjk : k = j
          · subst hjk; exact .inr ⟨g2, h2 k (Nat.le_refl _)⟩
          · exact h1 j (by omega)
        · rw [Bool.and_false]
          refine ⟨(fun hh => by cases hh), fun hh => ?_⟩
          have h4 := hh k (by omega)
          have h5 := (h2 k (Nat.le_refl _)).2
          omega)
    (by
      rintro o b ⟨F, S, rfl, h1, _, h3⟩
      exact ⟨_, by unfold ZaX; rw [if_neg (by simp)], F, S, b, rfl, h1, h3⟩)
    (a0 := ⟨n, Vector.replicate 64 0, Vector.replicate 64 0, false, C, false⟩) (b0 := true) ⟨_, _, rfl, fun j hj => by omega, fun j _ => ⟨ZbC j, ZbC j⟩, ⟨fun _ i hi => by omega, fun _ => rfl⟩⟩
  exact ⟨F, S, b, e1, e2, e3⟩
theorem Zpr {n : Int} {l : List api_Rest} (h : MOK n l) : ∃ o, Zcn l = some o ∧ MG n l o := by
  obtain ⟨x, hx⟩ := ZT (xs := l) (k := 0) (List.length_pos_iff.2 h.ne)
  have hxn : x.Number = n := h.num x (List.mem_of_getElem? hx)
  have hb := ZiB h.cop
  have hlen := h.len
  have hx0 : idx l 0 = some x := Z2 (k := 0) hx
  obtain ⟨⟨oN, oF, oS, oD, oC, oX⟩, e1, F, V, b, ht, hn, hC, hbb, hcl, hI⟩ := Zmp h
  rw [List.take_length] at ht hC hI
  simp only at hn hC hbb hI
  subst hn hC hbb
  unfold Zcn
  rw [hx0, Option.bind_some, hxn, e1, Option.bind_some, QN]
  simp only
  cases oX with
  | true => rw [if_pos rfl]; exact ⟨_, rfl, .clash (hcl rfl)⟩
  | false =>
    rw [if_neg (by simp)]
    have hnc : ∀ hc : (∀ r ∈ l, r.Conflict = false), ¬ ∃ r ∈ l, r.Conflict = true := fun hc ⟨r, hr, hrc⟩ => by rw [hc r hr] at hrc; cases hrc
    rcases hI with ⟨h1, h2, h3, h4, h5⟩ | ⟨h1, h2, h3, ⟨s, hs, hsF⟩, h5⟩
    · have hcl' : ¬ Clash l := fun hc => hc.elim (hnc (h5 rfl)) fun ⟨r, s, hr, _⟩ => h1 r hr
      subst h2 h3 h4
      rw [if_neg (by simp)]
      obtain ⟨F, S, c, p1, p2, p3⟩ := ZpD h.len oN (sumC l)
      have hN := Zg0 h p2
      have hU : fU F := fun i => ⟨(hN i).1, by have := (hN i).2; omega⟩
      rw [p1, Option.bind_some, Zc8]
      have hpo : MG oN l (prtOut oN (sumC l) F S) := .parts hcl' h1 p2
      unfold prtOut at hpo
      simp only
      cases c with
      | false =>
        rw [show ((false : Bool) == true) = false from rfl, Zqc, Option.bind_some]
        rw [if_neg (fun hh => by have := p3.2 hh.1; cases this)] at hpo
        refine ⟨_, ?_, hpo⟩
        simp
      | true =>
        rw [Zcu, Zkg hU, Option.bind_some, Bool.true_and]
        have hsas : ZmK F oN = (ZgM F && decide ((Ze8 F).1 = oN)) := rfl
        cases hs : ZgM F with
        | false =>
          rw [show ((false : Bool) == true) = false from rfl, Zqc, Option.bind_some]
          rw [if_neg (fun hh => by rw [hsas, hs] at hh; cases hh.2)] at hpo
          exact ⟨_, by simp, hpo⟩
        | true =>
          rw [Zcu, Zif hU (hN 1).2 (hN 2).2, Option.bind_some]
          by_cases hnum : (Ze8 F).1 = oN
          · rw [if_pos (by simp [hnum]), Znd (body := Zb6) 3 (fun v k hk => by
              unfold Zb6
              rw [if_pos (by simp; omega), Z8 v hk, Option.bind_some, XO hk (by omega)]) (fun v => by unfold Zb6; rw [if_neg (by simp)]), Option.bind_some, QN]
            rw [if_pos ⟨p3.1 rfl, by rw [hsas, hs, hnum]; simp⟩] at hpo
            exact ⟨_, rfl, hpo⟩
          · rw [if_neg (by simp [hnum])]
            rw [if_neg (fun hh => by rw [hsas, hs] at hh; simp [hnum] at hh)] at hpo
            exact ⟨_, rfl, hpo⟩
    · obtain ⟨h6, h7⟩ := h5 rfl
      subst h1 h2 h3
      have hcl' : ¬ Clash l := fun hc => hc.elim (hnc h7) fun ⟨r, s, hr, hs, hne⟩ => hne (by rw [h6 r hr, h6 s hs])
      have hmo : MG oN l (sndOut oN (sumC l) s.Frame oS) := .sound hcl' hs ht
      rw [hsF] at hmo
      rw [if_pos rfl]
      have hall := ZlQ oS 3
      unfold sndOut at hmo
      have hg := Zoa ⟨oN, oF, oS, true, sumC l, false⟩
      by_cases hz : sumC l = 0
      · rw [show decide (sumC l = 0) = true by simp [hz], Zcu, hg, Option.bind_some]
        cases ha : (!oS.toList.any fun s => !decide (s = 3)) with
        | true =>
          rw [if_pos (hall.1 ha), show max (sumC l) 1 = 1 by omega] at hmo
          exact ⟨_, by simp [ha], hmo⟩
        | false =>
          rw [if_neg (fun hh => by rw [hall.2 hh] at ha; cases ha)] at hmo
          exact ⟨_, by simp [ha], hmo⟩
      · rw [show decide (sumC l = 0) = false by simp [hz]]
        simp only [show ((false : Bool) == true) = false from rfl, Zqc, Option.bind_some, Bool.false_and, Bool.false_eq_true, if_false]
        have : max (sumC l) 1 = sumC l := by omega
        rw [this] at hmo
        simp only [ite_self] at hmo
        exact ⟨_, rfl, hmo⟩
end Go.Vx
