/- A text of the proof: a verified executor of the program form, or the contracts of the functions that the law reaches. -/
import Derived.Test.YtpfdelgflppgnabDoorShLib
import Derived.Test.YtpfdelgflppgnabDoorShT
import Derived.Test.YtpfdelgflppgnabDoorVH
import Derived.Test.YtpfdelgflppgnabDoorVP
set_option linter.all false
namespace Go.Vx
open Go Go.RowKit
theorem Zkl {z : Int} (h1 : -9223372036854775808 ≤ z) (h2 : z ≤ 9223372036854775807) : IntKind.i64.wrap z = z := w64 h1 h2
@[simp] theorem Zm7 {α : Type} {d : α} {o : Option α} : gd true d o = o := rfl
@[simp] theorem ZpG {α : Type} {d : α} {o : Option α} : gd false d o = some d := rfl
@[simp] theorem ZnK {α : Type} {d : α} {o : Option α} : gd (true == true) d o = o := rfl
theorem Z8 {α : Type} {xs : List α} {k : Nat} {x : α} (h : xs[k]? = some x) : idx xs (k : Int) = some x := by simp [idx, h]
theorem Xm {α : Type} {xs : List α} {k : Nat} {x : α} (h : xs[k]? = some x) : (k : Int) < (xs.length : Int) := by
  have := (List.getElem?_eq_some_iff.1 h).1; omega
theorem Qm {α : Type} {xs : List α} {k : Nat} (h : k < xs.length) : ∃ x, xs[k]? = some x := ⟨xs[k], List.getElem?_eq_getElem h⟩
theorem ZP {α : Type} {xs : List α} {k : Nat} {x : α} (h : xs[k]? = some x) : xs.drop k = x :: xs.drop (k + 1) := by
  obtain ⟨hk, rfl⟩ := List.getElem?_eq_some_iff.1 h
  exact List.drop_eq_getElem_cons hk
theorem Zhp {α : Type} {xs ys : List α} (h : xs.length + ys.length ≤ 4294967296) : app xs ys = some (xs ++ ys) := by simp [app, h]

section loops
variable {σ ρ : Type}
theorem ZcR {body : σ → Option (σ ⊕ ρ)} (I : σ → Prop) (μ : σ → Nat) (F : σ → ρ) (step : ∀ s, I s → (∃ s', body s = some (.inl s') ∧ I s' ∧ μ s' < μ s ∧ F s = F s') ∨ body s = some (.inr (F s))) :
    ∀ s, I s → loop body s = some (F s) := by
  intro s hs
  obtain ⟨r, h1, h2⟩ := Zl3 (body := body) (fun s' => I s' ∧ F s = F s') μ (fun r => r = F s) (fun s' ⟨h1, h2⟩ => by
    rcases step s' h1 with ⟨s2, e1, e2, e3, e4⟩ | e
    · exact .inl ⟨s2, e1, ⟨e2, h2.trans e4⟩, e3⟩
    · exact .inr ⟨_, e, h2.symm⟩) s ⟨hs, rfl⟩
  rw [h1, h2]
variable {α : Type} {xs : List α}
theorem Zja {body : Int → Option (Int ⊕ ρ)} (F : Nat → ρ)
    (hstep : ∀ (k : Nat) x, xs[k]? = some x → (body k = some (.inl ((k : Int) + 1)) ∧ F k = F (k + 1)) ∨ body k = some (.inr (F k)))
    (hend : body xs.length = some (.inr (F xs.length))) : loop (t1 body) 0 = some (F 0) := by
  refine ZcR (body := t1 body) (fun i => ∃ k : Nat, i = k ∧ k ≤ xs.length) (fun i => xs.length - i.toNat) (fun i => F i.toNat) ?_ 0 ⟨0, rfl, Nat.zero_le _⟩
  rintro i ⟨k, rfl, hk⟩
  simp only [Int.toNat_natCast, ZhT]
  rcases Nat.lt_or_ge k xs.length with h | h
  · obtain ⟨x, hx⟩ := Qm h
    rcases hstep k x hx with ⟨h1, h2⟩ | h1
    · exact .inl ⟨_, h1, ⟨k + 1, by push_cast; rfl, h⟩, by omega, by rw [h2]; rfl⟩
    · exact .inr h1
  · have : k = xs.length := by omega
    subst this
    exact .inr hend
theorem Zf5 {body : σ → Int → Option ((σ × Int) ⊕ ρ)} (I : σ → Nat → Prop) (F : σ → Nat → ρ)
    (hstep : ∀ a (k : Nat) x, I a k → xs[k]? = some x → (∃ a', body a k = some (.inl (a', (k : Int) + 1)) ∧ I a' (k + 1) ∧ F a k = F a' (k + 1)) ∨ body a k = some (.inr (F a k)))
    (hend : ∀ a, I a xs.length → body a xs.length = some (.inr (F a xs.length))) {a0 : σ} (h0 : I a0 0) : loop (t2 body) (a0, 0) = some (F a0 0) := by
  refine ZcR (body := t2 body) (fun p => ∃ k : Nat, p.2 = k ∧ k ≤ xs.length ∧ I p.1 k) (fun p => xs.length - p.2.toNat) (fun p => F p.1 p.2.toNat) ?_ (a0, 0) ⟨0, rfl, Nat.zero_le _, h0⟩
  rintro ⟨a, i⟩ ⟨k, hi, hk, hI⟩
  simp only at hi hI
  subst hi
  simp only [Int.toNat_natCast, ZbA]
  rcases Nat.lt_or_ge k xs.length with h | h
  · obtain ⟨x, hx⟩ := Qm h
    rcases hstep a k x hI hx with ⟨a', h1, h2, h3⟩ | h1
    · exact .inl ⟨_, h1, ⟨k + 1, by push_cast; rfl, h, h2⟩, by simp only; omega, by rw [h3]; rfl⟩
    · exact .inr h1
  · have : k = xs.length := by omega
    subst this
    exact .inr (hend a hI)
end loops
end Go.Vx

namespace Go.Vx
open Go Go.RowKit
section err
variable {α ε : Type}
def JQ {ρ : Type} (A : ε → ρ) (Z : ρ) : Option ε → ρ
  | some e => A e
  | none => Z
@[simp] theorem Zow {ρ : Type} (A : ε → ρ) (Z : ρ) (e : ε) : JQ A Z (some e) = A e := rfl
@[simp] theorem Ze5 {ρ : Type} (A : ε → ρ) (Z : ρ) : JQ A Z none = Z := rfl
def Ze4 (g : α → Option ε) : List α → Option ε
  | [] => none
  | x :: tl => match g x with | some e => some e | none => Ze4 g tl
theorem Zix {ρ : Type} {xs : List α} (g : α → Option ε) (A : ε → ρ) (Z : ρ) {body : Int → Option (Int ⊕ ρ)}
    (h : ∀ (k : Nat) x, xs[k]? = some x → body k = match g x with | some e => some (.inr (A e)) | none => some (.inl ((k : Int) + 1)))
    (hend : body xs.length = some (.inr Z)) : loop (t1 body) 0 = some (JQ A Z (Ze4 g xs)) := by
  refine Zja (xs := xs) (fun k => JQ A Z (Ze4 g (xs.drop k))) (fun k x hx => ?_) ?_
  · rw [h k x hx, ZP hx]
    simp only [Ze4]
    cases hg : g x with
    | some e => right; rfl
    | none => left; exact ⟨rfl, rfl⟩
  · rw [hend]; simp [Ze4]
end err
theorem Zmi {α β : Type} {xs : List α} {body : List β → Int → Option ((List β × Int) ⊕ (List β))} (g : α → β)
    (hstep : ∀ (k : Nat) x acc, xs[k]? = some x → acc.length = k → body acc k = some (.inl (acc ++ [g x], (k : Int) + 1)))
    (hend : ∀ acc, body acc xs.length = some (.inr acc)) : loop (t2 body) ([], 0) = some (xs.map g) := by
  refine (ZcR (body := t2 body) (fun p => ∃ k : Nat, p.2 = k ∧ k ≤ xs.length ∧ p.1.length = k) (fun p => xs.length - p.2.toNat) (fun p => p.1 ++ (xs.drop p.2.toNat).map g) ?_ ([], 0) ⟨0, rfl, Nat.zero_le _, rfl⟩).trans (by simp)
  rintro ⟨acc, i⟩ ⟨k, hi, hk, ha⟩
  simp only at hi ha
  subst hi
  simp only [ZbA, Int.toNat_natCast]
  rcases Nat.lt_or_ge k xs.length with h | h
  · obtain ⟨x, hx⟩ := Qm h
    left
    refine ⟨_, hstep k x acc hx ha, ⟨k + 1, by push_cast; rfl, h, by simp [ha]⟩, by simp only; omega, ?_⟩
    rw [ZP hx]
    simp
  · have : k = xs.length := by omega
    subst this
    right
    rw [hend]; simp
end Go.Vx

namespace Go.Vx
open Go Go.RowKit
theorem ZN {z : Int} (h1 : -9223372036854775808 ≤ z) (h2 : z ≤ 9223372036854775807) : i64 z = z := Zkl h1 h2
theorem Zmw {n : Nat} (h : n ≤ 61) : (1 : Int) ≤ 2 ^ n ∧ (2 : Int) ^ n ≤ 2305843009213693952 := by
  have e : ((2 ^ n : Nat) : Int) = (2 : Int) ^ n := by push_cast; rfl
  have h1 : 1 ≤ 2 ^ n := Nat.one_le_two_pow
  have h2 : 2 ^ n ≤ 2 ^ 61 := Nat.pow_le_pow_right (by decide) h
  rw [show (2 : Nat) ^ 61 = 2305843009213693952 by decide] at h2
  omega
theorem ZcK {v : Int} {n : Nat} (hn : n ≤ 61) : Jq .i64 v ((2 : Int) ^ n - 1) = v % (2 : Int) ^ n := by
  have hb := Zmw hn
  have e : ((2 : Int) ^ n - 1) = ((2 ^ n - 1 : Nat) : Int) := by
    have h1 : 1 ≤ 2 ^ n := Nat.one_le_two_pow
    have h2 : ((2 ^ n : Nat) : Int) = (2 : Int) ^ n := by push_cast; rfl
    omega
  have h2 : 2 ^ n ≤ 2 ^ 61 := Nat.pow_le_pow_right (by decide) hn
  have h2p : 0 < 2 ^ n := Nat.two_pow_pos n
  have e2 : (BitVec.ofInt 64 ((2 : Int) ^ n - 1)).toNat = 2 ^ n - 1 := by
    rw [e, BitVec.ofInt_natCast, BitVec.toNat_ofNat]
    exact Nat.mod_eq_of_lt (by have : (2 : Nat) ^ 61 < 2 ^ 64 := by decide
                               omega)
  have e3 : ((BitVec.ofInt 64 v).toNat : Int) = v % (2 : Int) ^ 64 := by
    rw [BitVec.toNat_ofInt]
    have : (0 : Int) ≤ v % ((2 ^ 64 : Nat) : Int) := Int.emod_nonneg _ (by decide)
    rw [Int.toNat_of_nonneg this]; rfl
  have e4 : ((BitVec.ofInt 64 v &&& BitVec.ofInt 64 ((2 : Int) ^ n - 1)).toNat : Int) = v % (2 : Int) ^ n := by
    rw [BitVec.toNat_and, e2, Nat.and_two_pow_sub_one_eq_mod]
    push_cast
    rw [e3]
    have : ((2 : Int) ^ n) ∣ (2 : Int) ^ 64 := ⟨(2 : Int) ^ (64 - n), by rw [← Int.pow_add]; congr 1; omega⟩
    exact Int.emod_emod_of_dvd v this
  have hp : (0 : Int) < (2 : Int) ^ n := by omega
  have b1 := Int.emod_nonneg v (show (2 : Int) ^ n ≠ 0 by omega)
  have b2 := Int.emod_lt_of_pos v hp
  unfold Jq
  have : IntKind.i64.bits = 64 := rfl
  rw [this, e4]
  exact ZN (by omega) (by omega)
theorem ZnD {a b n : Nat} (ha : a < 2 ^ n) (hb : a + 2 ^ n * b < 2 ^ 62) : bor .i64 (a : Int) ((2 ^ n * b : Nat) : Int) = ((a + 2 ^ n * b : Nat) : Int) := by
  unfold bor
  have e0 : IntKind.i64.bits = 64 := rfl
  have h64 : (2 : Nat) ^ 62 < 2 ^ 64 := by decide
  have e1 : (BitVec.ofInt 64 (a : Int)).toNat = a := by
    rw [BitVec.ofInt_natCast, BitVec.toNat_ofNat]; exact Nat.mod_eq_of_lt (by omega)
  have e2 : (BitVec.ofInt 64 ((2 ^ n * b : Nat) : Int)).toNat = 2 ^ n * b := by
    rw [BitVec.ofInt_natCast, BitVec.toNat_ofNat]; exact Nat.mod_eq_of_lt (by omega)
  rw [e0, BitVec.toNat_or, e1, e2, Nat.or_comm, ← Nat.two_pow_add_eq_or_of_lt ha, Nat.add_comm]
  have h62 : (2 : Nat) ^ 62 = 4611686018427387904 := by decide
  exact ZN (by omega) (by omega)
end Go.Vx

namespace Go.Vx
open Go Go.RowKit
theorem Zk0 {a : Nat} (h : a < 9223372036854775808) : (BitVec.ofInt 64 (a : Int)).toNat = a := by
  rw [BitVec.ofInt_natCast, BitVec.toNat_ofNat]; exact Nat.mod_eq_of_lt (by omega)
theorem Zod {a b : Nat} (ha : a < 9223372036854775808) (hb : b < 9223372036854775808) : Jq .i64 (a : Int) (b : Int) = ((a &&& b : Nat) : Int) := by
  unfold Jq
  have e0 : IntKind.i64.bits = 64 := rfl
  rw [e0, BitVec.toNat_and, Zk0 ha, Zk0 hb]
  have := Nat.and_le_left (n := a) (m := b)
  exact ZN (by omega) (by omega)
theorem Zkk {a b : Nat} (ha : a < 9223372036854775808) (hb : b < 9223372036854775808) : Zhe .i64 (a : Int) (b : Int) = ((a ^^^ b : Nat) : Int) := by
  unfold Zhe
  have e0 : IntKind.i64.bits = 64 := rfl
  rw [e0, BitVec.toNat_xor, Zk0 ha, Zk0 hb]
  have : a ^^^ b < 2 ^ 63 := Nat.xor_lt_two_pow (by omega) (by omega)
  exact ZN (by omega) (by omega)
def restB : BitVec 22 := 2097167#22
def zS (v : BitVec 22) : BitVec 22 := (v <<< 1) ^^^ (if v.msb then restB else 0#22)
theorem ZoB (a b : BitVec 22) : zS (a ^^^ b) = zS a ^^^ zS b := by
  have e1 : ∀ x y r : BitVec 22, (x ^^^ r) ^^^ (y ^^^ r) = x ^^^ y := fun x y r => by
    rw [BitVec.xor_assoc, BitVec.xor_comm y r, ← BitVec.xor_assoc r r y, BitVec.xor_self, BitVec.zero_xor]
  have e2 : ∀ x y r : BitVec 22, (x ^^^ r) ^^^ y = (x ^^^ y) ^^^ r := fun x y r => by
    rw [BitVec.xor_assoc, BitVec.xor_comm r y, ← BitVec.xor_assoc]
  unfold zS
  rw [BitVec.shiftLeft_xor_distrib, BitVec.msb_xor]
  cases a.msb <;> cases b.msb
  · simp
  · simp [BitVec.xor_assoc]
  · simp [e2]
  · simp [e1]
def pS (b : Nat → Bool) : Nat → BitVec 22
  | 0 => 0#22
  | k + 1 => zS (pS b k) ^^^ (if b k then restB else 0#22)
def rS (b : Nat → Bool) : Nat → BitVec 22
  | 0 => 0#22
  | k + 1 => zS (rS b k) ^^^ (if b k then 1#22 else 0#22)
def zI : Nat → BitVec 22 → BitVec 22
  | 0, v => v
  | k + 1, v => zS (zI k v)
theorem ZoA (k : Nat) (a b : BitVec 22) : zI k (a ^^^ b) = zI k a ^^^ zI k b := by
  induction k with
  | zero => rfl
  | succ k ih => simp only [zI, ih, ZoB]
theorem Zo2 (k : Nat) (v : BitVec 22) : zI k (zS v) = zS (zI k v) := by
  induction k with
  | zero => rfl
  | succ k ih => simp only [zI, ih]
theorem zI_one : zI 22 1#22 = restB := by decide
theorem zI_zero : zI 22 0#22 = 0#22 := by decide
theorem Znx (b : Nat → Bool) : ∀ k, pS b k = zI 22 (rS b k)
  | 0 => zI_zero.symm
  | k + 1 => by
    rw [pS, rS, ZoA, Zo2, Znx b k]
    congr 1
    cases b k
    · exact zI_zero.symm
    · exact zI_one.symm
theorem ZkV {b : Nat → Bool} {n : Nat} (h : ∀ k, n ≤ k → b k = false) : ∀ j, rS b (n + j) = zI j (rS b n)
  | 0 => rfl
  | j + 1 => by
    rw [← Nat.add_assoc, rS, ZkV h j, h _ (by omega)]
    simp [zI]
theorem Zox {b : Nat → Bool} {n : Nat} (h : ∀ k, n ≤ k → b k = false) : rS b (n + 22) = pS b n := by rw [ZkV h, Znx]
theorem Zpm (v : BitVec 22) : decide (Jq .i64 (v.toNat : Int) 2097152 = 0) = !v.msb := by
  have := v.isLt
  rw [show (2097152 : Int) = ((2097152 : Nat) : Int) from rfl, Zod (by omega) (by omega)]
  rw [show (2097152 : Nat) = 2 ^ 21 from rfl]
  have e : v.msb = v.toNat.testBit 21 := by rw [BitVec.msb_eq_getLsbD_last]; rfl
  rw [e]
  have e2 : (v.toNat &&& 2 ^ 21).testBit 21 = v.toNat.testBit 21 := by rw [Nat.testBit_and, Nat.testBit_two_pow_self, Bool.and_true]
  cases hb : v.toNat.testBit 21
  · have : v.toNat &&& 2 ^ 21 = 0 := by
      refine Nat.eq_of_testBit_eq fun i => ?_
      rw [Nat.testBit_and, Nat.testBit_two_pow]
      by_cases h : 21 = i
      · subst h; rw [hb]; simp
      · simp [h]
    rw [this]; rfl
  · have : v.toNat &&& 2 ^ 21 ≠ 0 := fun h => by rw [h, Nat.zero_testBit, hb] at e2; cases e2
    have : ((v.toNat &&& 2 ^ 21 : Nat) : Int) ≠ 0 := by omega
    simp only [this, decide_false, Bool.not_true]
theorem Zpb (v : BitVec 22) : shl .i64 (v.toNat : Int) 1 = some ((v.toNat : Int) * 2) := by
  have := v.isLt
  unfold shl
  rw [if_neg (by decide)]
  congr 1
  have e : (2 : Int) ^ min (Int.toNat 1) IntKind.i64.bits = 2 := rfl
  rw [e]
  exact ZN (by omega) (by omega)
theorem Zo1 (v : BitVec 22) : Jq .i64 ((v.toNat : Int) * 2) 4194303 = ((v <<< 1).toNat : Int) := by
  have e : (4194303 : Int) = (2 : Int) ^ 22 - 1 := by decide
  rw [e, ZcK (n := 22) (by decide), BitVec.toNat_shiftLeft, Nat.shiftLeft_eq]
  rw [Int.natCast_emod, Int.natCast_mul]
  rfl
theorem Zpo (v : BitVec 22) : Zhe .i64 (v.toNat : Int) 2097167 = ((v ^^^ restB).toNat : Int) := by
  have := v.isLt
  rw [show (2097167 : Int) = ((2097167 : Nat) : Int) from rfl, Zkk (by omega) (by omega), BitVec.toNat_xor]
  rfl
theorem Zm6 (v : BitVec 22) (b : Bool) : zS v ^^^ (if b then restB else 0#22) = if (!(v.msb == b)) = true then (v <<< 1) ^^^ restB else v <<< 1 := by
  unfold zS
  cases v.msb <;> cases b
  · simp
  · simp
  · simp
  · simp [BitVec.xor_assoc]
theorem ZlP (m : Nat) : (2 * m) ^^^ 1 = 2 * m + 1 := by
  have h1 : ((2 * m) ^^^ 1) % 2 ^ 1 = (2 * m) % 2 ^ 1 ^^^ 1 % 2 ^ 1 := Nat.xor_mod_two_pow
  have h2 : ((2 * m) ^^^ 1) / 2 ^ 1 = (2 * m) / 2 ^ 1 ^^^ 1 / 2 ^ 1 := Nat.xor_div_two_pow
  rw [show (2 * m) % 2 ^ 1 = 0 by omega, show 1 % 2 ^ 1 = 1 from rfl, Nat.zero_xor] at h1
  rw [show (2 * m) / 2 ^ 1 = m by omega, show 1 / 2 ^ 1 = 0 from rfl, Nat.xor_zero] at h2
  omega
theorem Znh (v : BitVec 22) (b : Bool) : let R : Nat := 2 * v.toNat + b.toNat
    (if 4194304 ≤ R then R ^^^ 6291471 else R) = (zS v ^^^ (if b then 1#22 else 0#22)).toNat := by
  intro R
  have hv := v.isLt
  have hb : b.toNat ≤ 1 := by cases b <;> decide
  have hm : v.msb = decide (2097152 ≤ v.toNat) := by
    rw [BitVec.msb_eq_decide]
  have es : (v <<< 1).toNat = (2 * v.toNat) % 4194304 := by rw [BitVec.toNat_shiftLeft, Nat.shiftLeft_eq]; congr 1; omega
  obtain ⟨s, hs⟩ : ∃ s, (v <<< 1).toNat = 2 * s := ⟨(v <<< 1).toNat / 2, by omega⟩
  have e1 : ∀ u : BitVec 22, ((v <<< 1) ^^^ u ^^^ (if b then 1#22 else 0#22)).toNat = ((v <<< 1).toNat + b.toNat) ^^^ u.toNat := fun u => by
    rw [BitVec.toNat_xor, BitVec.toNat_xor, hs]
    cases b
    · simp
    · simp only [if_true, Bool.toNat_true]
      rw [← ZlP, Nat.xor_assoc, Nat.xor_comm u.toNat, ← Nat.xor_assoc]; rfl
  unfold zS
  by_cases h : 2097152 ≤ v.toNat
  · rw [if_pos (by omega), hm, decide_eq_true h, if_pos rfl, e1]
    have h1 : (R ^^^ 6291471) % 2 ^ 22 = R % 2 ^ 22 ^^^ 6291471 % 2 ^ 22 := Nat.xor_mod_two_pow
    have h2 : (R ^^^ 6291471) / 2 ^ 22 = R / 2 ^ 22 ^^^ 6291471 / 2 ^ 22 := Nat.xor_div_two_pow
    have h3 : R / 2 ^ 22 = 1 := by omega
    have h4 : R % 2 ^ 22 = (v <<< 1).toNat + b.toNat := by omega
    rw [h3, show 6291471 / 2 ^ 22 = 1 from rfl, Nat.xor_self] at h2
    rw [h4, show 6291471 % 2 ^ 22 = restB.toNat from rfl] at h1
    omega
  · rw [if_neg (by omega), hm, decide_eq_false h, if_neg (by decide), e1]
    simp only [BitVec.toNat_ofNat, Nat.zero_mod, Nat.xor_zero]
    omega
end Go.Vx

namespace Go.Vx
open Go Go.RowKit
def Zei (x : api_Part) : Prop := (wfI .i64) x.Frame ∧ (wfI .i64) x.Word ∧ (wfI .i64) x.Low ∧ (wfI .i64) x.Bits ∧ True
def Zbj (x : api_Param) : Prop := wfS x.Name ∧ (wfI .i64) x.Kind ∧ (wfL Zei) x.Parts ∧ (wfI .i64) x.First ∧ (wfI .i64) x.Every ∧ (wfI .i64) x.Times ∧ (wfI .i64) x.Step ∧ (wfL wfS) x.Names ∧ True
def ZbS (x : api_Map) : Prop := (wfI .i64) x.Version ∧ (wfL Zbj) x.Params ∧ True
end Go.Vx

namespace Go.Vx
open Go Go.RowKit
def Xy {σ ρ : Type} (b : σ → Option (σ ⊕ ρ)) (s : σ) : Option ρ :=
  Nat.rec (motive := fun _ => σ → Option ρ) (fun _ => none) (fun _ ih s => match b s with | none => none | some (.inl s') => ih s' | some (.inr r) => some r) 1000000 s
def Le {α : Type} (a b : Option α) : Prop := ∀ r, a = some r → b = some r
theorem Le.refl {α : Type} (a : Option α) : Le a a := fun _ h => h
section
variable {α β γ δ ε ζ η θ ι κ σ ρ : Type}
theorem Le.bind {a b : Option α} {f g : α → Option β} (h : Le a b) (hf : ∀ x, Le (f x) (g x)) : Le (a.bind f) (b.bind g) := by
  intro r hr
  cases ha : a with
  | none => rw [ha] at hr; cases hr
  | some x => rw [ha] at hr; rw [h x ha]; exact hf x r hr
theorem Le.ite {c : Prop} [Decidable c] {a b a' b' : Option α} (h1 : Le a a') (h2 : Le b b') : Le (if c then a else b) (if c then a' else b') := by
  split
  · exact h1
  · exact h2
theorem Le.gd {g : Bool} {d : α} {a b : Option α} (h : Le a b) : Le (gd g d a) (gd g d b) := by
  cases g
  · exact fun r hr => hr
  · exact h
theorem Le.loop {b b' : σ → Option (σ ⊕ ρ)} {s : σ} (h : ∀ s, Le (b s) (b' s)) : Le (Xy b s) (loop b' s) := by
  have key : ∀ n s r, Nat.rec (motive := fun _ => σ → Option ρ) (fun _ => none) (fun _ ih s => match b s with | none => none | some (.inl s') => ih s' | some (.inr r) => some r) n s = some r → ZcF b' n s = some r := by
    intro n
    induction n with
    | zero => intro s r hr; cases hr
    | succ n ih =>
      intro s r hr
      simp only at hr
      cases hb : b s with
      | none => rw [hb] at hr; cases hr
      | some o =>
        rw [hb] at hr
        simp only [ZcF, h s o hb, Option.bind_some]
        cases o with
        | inl s' => exact ih s' r hr
        | inr r' => exact hr
  intro r hr
  exact Zg2 (key 1000000 s r hr)
theorem Le.t0 {f g : Option κ} {p : Unit} (h : Le f g) : Le (t0 f p) (t0 g p) := h
theorem Le.t1 {f g : α → Option κ} {p : α} (h : ∀ a, Le (f a) (g a)) : Le (t1 f p) (t1 g p) := h _
theorem Le.t2 {f g : α → β → Option κ} {p : α × β} (h : ∀ a b, Le (f a b) (g a b)) : Le (t2 f p) (t2 g p) := h _ _
theorem Le.t3 {f g : α → β → γ → Option κ} {p : α × β × γ} (h : ∀ a b c, Le (f a b c) (g a b c)) : Le (t3 f p) (t3 g p) := h _ _ _
theorem Le.t4 {f g : α → β → γ → δ → Option κ} {p : α × β × γ × δ} (h : ∀ a b c d, Le (f a b c d) (g a b c d)) : Le (t4 f p) (t4 g p) := h _ _ _ _
theorem Le.t5 {f g : α → β → γ → δ → ε → Option κ} {p : α × β × γ × δ × ε} (h : ∀ a b c d e, Le (f a b c d e) (g a b c d e)) : Le (t5 f p) (t5 g p) := h _ _ _ _ _
theorem Le.t6 {f g : α → β → γ → δ → ε → ζ → Option κ} {p : α × β × γ × δ × ε × ζ} (h : ∀ a b c d e x, Le (f a b c d e x) (g a b c d e x)) : Le (t6 f p) (t6 g p) := h _ _ _ _ _ _
theorem Le.t7 {f g : α → β → γ → δ → ε → ζ → η → Option κ} {p : α × β × γ × δ × ε × ζ × η} (h : ∀ a b c d e x y, Le (f a b c d e x y) (g a b c d e x y)) : Le (t7 f p) (t7 g p) := h _ _ _ _ _ _ _
theorem Le.t8 {f g : α → β → γ → δ → ε → ζ → η → θ → Option κ} {p : α × β × γ × δ × ε × ζ × η × θ} (h : ∀ a b c d e x y z, Le (f a b c d e x y z) (g a b c d e x y z)) : Le (t8 f p) (t8 g p) := h _ _ _ _ _ _ _ _
theorem Le.elim {f f' : α → Option κ} {g g' : β → Option κ} {s : α ⊕ β} (h1 : ∀ a, Le (f a) (f' a)) (h2 : ∀ b, Le (g b) (g' b)) : Le (Sum.elim f g s) (Sum.elim f' g' s) := by
  cases s with
  | inl a => exact h1 a
  | inr b => exact h2 b
end
end Go.Vx

namespace Go.Vx
open Go Go.RowKit
end Go.Vx

namespace Go.Vx
open Go Go.RowKit
set_option linter.unusedVariables false

noncomputable def Zc0 (n2 : Int) (ones2 : Int) : Option ((Int × Int) ⊕ (Int)) :=
  if (decide (0 < n2)) = true then
  (rem n2 2).bind fun q =>
  (quo .i64 n2 2).bind fun q2 =>
  some (.inl (q2, (i64 (ones2 + q))))
  else
  some (.inr ones2)
theorem ZhN (n2 : Int) (ones2 : Int) : Le (Zc0 n2 ones2) (ZcY n2 ones2) := by
  unfold Zc0 ZcY
  with_reducible repeat' (first | exact Le.refl _ | apply Le.bind | apply Le.ite | intro _)

noncomputable def ZdK (n : Int) : Option Bool :=
  ((Xy (t2 (Zc0)) (n, 0)) : Option ((Int))).bind (t1 fun (ones : Int) =>
  (rem ones 2).bind fun q3 =>
  some (decide (q3 = 1)))
theorem ZjO (n : Int) : Le (ZdK n) (Zd3 n) := by
  unfold ZdK Zd3
  with_reducible repeat' (first | exact Le.refl _ | apply Le.bind | apply Le.loop | apply Le.t1 | apply Le.t2 | apply ZhN | intro _)

noncomputable def ZcP (data : Int) : Option Int :=
  (ZdK data).bind fun y =>
  if y = true then
  some data
  else
  some (i64 (data + 2048))
theorem Zi6 (data : Int) : Le (ZcP data) (Zab data) := by
  unfold ZcP Zab
  with_reducible repeat' (first | exact Le.refl _ | apply Le.bind | apply Le.ite | apply ZjO | intro _)
end Go.Vx

namespace Go.Vx
open Go Go.RowKit
end Go.Vx

namespace Go.Vx
open Go Go.RowKit
theorem ZbN {z : Int} (h1 : -9223372036854775808 ≤ z) (h2 : z ≤ 9223372036854775807) : i64 z = z := Zkl h1 h2
end Go.Vx

namespace Go.Vx
open Go Go.RowKit
def w3 (a b c : Int) : Int := 256 * a + 16 * b + c
def hL (l : List Int) : Prop := ∀ x ∈ l, 0 ≤ x ∧ x ≤ 15
end Go.Vx

namespace Go.Vx
open Go Go.RowKit
theorem Zcs {σ ρ : Type} {body : σ → Int → Option ((σ × Int) ⊕ ρ)} (S : Nat → σ) (R : ρ) {a b : Nat} (hab : a ≤ b)
    (hstep : ∀ k : Nat, a ≤ k → k < b → body (S k) (k : Int) = some (.inl (S (k + 1), (k : Int) + 1))) (hend : body (S b) (b : Int) = some (.inr R)) :
    loop (t2 body) (S a, (a : Int)) = some R := by
  refine ZcR (body := t2 body) (fun s => ∃ k : Nat, a ≤ k ∧ k ≤ b ∧ s = (S k, (k : Int))) (fun s => b - s.2.toNat) (fun _ => R) ?_ _ ⟨a, Nat.le_refl _, hab, rfl⟩
  rintro _ ⟨k, h1, h2, rfl⟩
  rcases Nat.lt_or_ge k b with h | h
  · exact .inl ⟨_, hstep k h1 h, ⟨k + 1, by omega, h, by push_cast; rfl⟩, by simp only; omega, rfl⟩
  · obtain rfl : k = b := by omega
    exact .inr hend
theorem Znf {σ ρ : Type} {body : σ → Int → Option ((σ × Int) ⊕ ρ)} (S : Nat → σ) (R : ρ) {b : Nat}
    (hstep : ∀ k : Nat, k < b → body (S (b - 1 - k)) (k : Int) = some (.inl (S (b - k), (k : Int) - 1))) (hend : body (S b) (-1) = some (.inr R)) :
    loop (t2 body) (S 0, (b : Int) - 1) = some R := by
  refine ZcR (body := t2 body) (fun s => ∃ k : Nat, k ≤ b ∧ s = (S (b - k), (k : Int) - 1)) (fun s => (s.2 + 1).toNat) (fun _ => R) ?_ _ ⟨b, Nat.le_refl _, by rw [Nat.sub_self]⟩
  rintro _ ⟨k, h2, rfl⟩
  rcases Nat.eq_zero_or_pos k with rfl | h
  · exact .inr hend
  · obtain ⟨j, rfl⟩ : ∃ j, k = j + 1 := ⟨k - 1, by omega⟩
    refine .inl ⟨_, ?_, ⟨j, by omega, rfl⟩, ?_, rfl⟩
    · have := hstep j h2
      rw [show ((j + 1 : Nat) : Int) - 1 = (j : Int) by omega, show b - (j + 1) = b - 1 - j by omega]
      exact this
    · simp only; omega
def wd (f : Vector Int 64) (i : Nat) : Int := f.toList.getD i 0
def fU (f : Vector Int 64) : Prop := ∀ i, 0 ≤ wd f i ∧ wd f i ≤ 65535
theorem XZ (f : Vector Int 64) {i : Nat} (hi : i < 64) : ZJ f (i : Int) = some (wd f i) := by
  unfold ZJ wd
  rw [if_pos (by omega), Int.toNat_natCast]
  obtain ⟨x, hx⟩ := Qm (xs := f.toList) (k := i) (by simp; omega)
  rw [List.getD_eq_getElem?_getD, hx]; rfl
theorem Zkf {x : Int} (h : 0 ≤ x ∧ x ≤ 65535) : ZaR x = some (x % 2048) := by
  obtain ⟨n, rfl⟩ : ∃ n : Nat, x = n := ⟨x.toNat, by omega⟩
  have e0 : IntKind.u16.bits = 16 := rfl
  have e1 : (BitVec.ofInt 16 (n : Int)).toNat = n := by
    rw [BitVec.ofInt_natCast, BitVec.toNat_ofNat]; exact Nat.mod_eq_of_lt (by omega)
  have e2 : (BitVec.ofInt 16 2047).toNat = 2 ^ 11 - 1 := rfl
  have e3 : Jq .u16 (n : Int) 2047 = ((n % 2048 : Nat) : Int) := by
    unfold Jq
    rw [e0, BitVec.toNat_and, e1, e2, Nat.and_two_pow_sub_one_eq_mod]
    have : n % 2 ^ 11 < 2048 := Nat.mod_lt _ (by decide)
    simp only [IntKind.wrap, IntKind.signed, IntKind.bits]
    have e : (2 : Int) ^ 16 = 65536 := by decide
    simp [e]
    omega
  unfold ZaR
  rw [e3, ZbN (by omega) (by omega)]; rfl
theorem Zf4 {x : Int} (h : 0 ≤ x) (n : Int) (hn : 0 < n) : rem x n = some (x % n) := by
  unfold rem
  rw [if_neg (by omega), Int.tmod_eq_emod_of_nonneg h]
def JX (f : Vector Int 64) : Int := wd f 1 % 2048 + wd f 2 % 2048 * 2048
theorem Zkw (f : Vector Int 64) : 0 ≤ JX f ∧ JX f < 4194304 := by unfold JX; omega
theorem Zo3 {a b : Int} (ha : 0 ≤ a ∧ a < 2048) (hb : 0 ≤ b ∧ b < 2048) : (shl .i64 b 11).bind (fun q => some (bor .i64 a q)) = some (a + b * 2048) ∧ (shl .i64 a 11).bind (fun q => some (bor .i64 q b)) = some (a * 2048 + b) := by
  have e : ∀ z : Int, 0 ≤ z ∧ z < 2048 → shl .i64 z 11 = some (z * 2048) := fun z hz => by
    unfold shl
    rw [if_neg (by decide)]
    have e : (2 : Int) ^ min (Int.toNat 11) IntKind.i64.bits = 2048 := rfl
    rw [e, w64 (by omega) (by omega)]
  have e2 : ∀ x y : Int, 0 ≤ x ∧ x < 2048 → 0 ≤ y ∧ y < 2048 → bor .i64 x (y * 2048) = x + y * 2048 := fun x y hx hy => by
    obtain ⟨m, rfl⟩ : ∃ m : Nat, x = m := ⟨x.toNat, by omega⟩
    obtain ⟨n, rfl⟩ : ∃ n : Nat, y = n := ⟨y.toNat, by omega⟩
    have := ZnD (a := m) (b := n) (n := 11) (by rw [show (2 : Nat) ^ 11 = 2048 by decide]; omega) (by rw [show (2 : Nat) ^ 11 = 2048 by decide, show (2 : Nat) ^ 62 = 4611686018427387904 by decide]; omega)
    rw [show (2 : Nat) ^ 11 = 2048 by decide] at this
    rw [show ((n : Int) * 2048) = ((2048 * n : Nat) : Int) by omega, this]; omega
  have e3 : ∀ x y : Int, bor .i64 x y = bor .i64 y x := fun x y => by unfold bor; rw [BitVec.or_comm]
  rw [e b hb, e a ha, Option.bind_some, Option.bind_some, e2 a b ha hb, e3, e2 b a hb ha]
  exact ⟨rfl, by rw [Int.add_comm]⟩
theorem Zps {a b : Int} (h1 : 0 ≤ a ∧ a ≤ 65535) (h2 : 0 ≤ b ∧ b ≤ 65535) : i64 (b % 2048 * 2048) = b % 2048 * 2048 ∧ i64 (a % 2048 + b % 2048 * 2048) = a % 2048 + b % 2048 * 2048 ∧ i64 a = a ∧ i64 b = b := ⟨ZbN (by omega) (by omega), ZbN (by omega) (by omega), ZbN (by omega) (by omega), ZbN (by omega) (by omega)⟩
theorem ZlQ {f : Vector Int 64} (h : fU f) : J6 f = some (JX f) ∧ ZaB f = some (JX f) := by
  have v1 : ZJ f 1 = some (wd f 1) := XZ f (i := 1) (by decide)
  have v2 : ZJ f 2 = some (wd f 2) := XZ f (i := 2) (by decide)
  obtain ⟨e1, e2, e3, e4⟩ := Zps (h 1) (h 2)
  refine ⟨?_, ?_⟩
  · unfold J6 JX
    rw [v1, Option.bind_some, Zkf (h 1), Option.bind_some, v2, Option.bind_some, Zkf (h 2), Option.bind_some, (Zo3 (by omega) (by omega)).1]
  · unfold ZaB JX
    rw [v1, Option.bind_some, e3, Zf4 (h 1).1 _ (by decide), Option.bind_some, v2, Option.bind_some, e4, Zf4 (h 2).1 _ (by decide), Option.bind_some, e1, e2]
def ZbF (f : Vector Int 64) : Nat → Int
  | 0 => 0
  | k + 1 => Zhe .i64 (ZbF f k) (wd f (k + 1) % 2048)
theorem ZkC {f : Vector Int 64} (h : fU f) : Zca f = some (ZbF f 60) ∧ Zd4 f = some (ZbF f 60) := by
  constructor
  · have := Zcs (body := JU f) (ZbF f) (ZbF f 60) (a := 0) (b := 60) (by decide) (fun k _ hk => by
      have hw := h (k + 1)
      unfold JU
      rw [if_pos (by simp; omega), ZbN (by omega) (by omega), show (k : Int) + 1 = ((k + 1 : Nat) : Int) by push_cast; rfl, XZ f (by omega), Option.bind_some, Zkf hw, Option.bind_some]
      rfl) (by unfold JU; rw [if_neg (by decide)])
    unfold Zca
    rw [show ((0 : Int), (0 : Int)) = (ZbF f 0, ((0 : Nat) : Int)) from rfl, this]
    rfl
  · have := Zcs (body := Zb9 f) (fun k => ZbF f (k - 1)) (ZbF f 60) (a := 1) (b := 61) (by decide) (fun k h1 hk => by
      have hw := h k
      obtain ⟨j, rfl⟩ : ∃ j, k = j + 1 := ⟨k - 1, by omega⟩
      unfold Zb9
      rw [if_pos (by simp; omega), XZ f (by omega), Option.bind_some, ZbN (by omega) (by omega), Zf4 hw.1 _ (by decide), Option.bind_some, ZbN (by omega) (by omega)]
      rfl) (by unfold Zb9; rw [if_neg (by decide)])
    unfold Zd4
    rw [show ((0 : Int), (1 : Int)) = ((fun k => ZbF f (k - 1)) 1, ((1 : Nat) : Int)) from rfl, this]
    rfl
theorem Zg3 (f : Vector Int 64) : ∀ k, 0 ≤ ZbF f k ∧ ZbF f k < 2048
  | 0 => ⟨Int.le_refl 0, by show (0 : Int) < 2048; decide⟩
  | k + 1 => by
    have ih := Zg3 f k
    obtain ⟨a, ha⟩ : ∃ n : Nat, ZbF f k = n := ⟨(ZbF f k).toNat, by omega⟩
    obtain ⟨b, hb⟩ : ∃ n : Nat, wd f (k + 1) % 2048 = n := ⟨(wd f (k + 1) % 2048).toNat, by omega⟩
    rw [ZbF, hb, ha, Zkk (by omega) (by omega)]
    have : a ^^^ b < 2 ^ 11 := Nat.xor_lt_two_pow (by omega) (by omega)
    omega
def ZaS (f : Vector Int 64) (j : Nat) : Bool := decide (j < 744) && decide (wd f (j / 12) / (2 : Int) ^ (11 - j % 12) % 2 = 1)
theorem Zm2 (x : Int) {k : Nat} (hk : k ≤ 11) : shr .u16 x (k : Int) = some (x / (2 : Int) ^ k) := by
  unfold shr
  have hm : min ((k : Int)).toNat IntKind.u16.bits = k := by
    have : IntKind.u16.bits = 16 := rfl
    rw [Int.toNat_natCast]; omega
  have hp : (0 : Int) < 2 ^ k := Int.pow_pos (by decide)
  rw [if_neg (by omega), hm, Int.fdiv_eq_ediv_of_nonneg _ (by omega)]
theorem Zi1 (x : Int) {k : Nat} (hk : k ≤ 11) : shr .i64 x (k : Int) = some (x / (2 : Int) ^ k) := by
  unfold shr
  have hm : min ((k : Int)).toNat IntKind.i64.bits = k := by
    have : IntKind.i64.bits = 64 := rfl
    rw [Int.toNat_natCast]; omega
  have hp : (0 : Int) < 2 ^ k := Int.pow_pos (by decide)
  rw [if_neg (by omega), hm, Int.fdiv_eq_ediv_of_nonneg _ (by omega)]
theorem Zor {x : Int} (h : 0 ≤ x ∧ x ≤ 65535) (k : Nat) : 0 ≤ x / (2 : Int) ^ k ∧ x / (2 : Int) ^ k ≤ 65535 := by
  have hp : (0 : Int) < 2 ^ k := Int.pow_pos (by decide)
  have h1 := Int.ediv_nonneg h.1 (Int.le_of_lt hp)
  have h2 : x / (2 : Int) ^ k ≤ x := Int.ediv_le_self _ h.1
  omega
theorem Zkg {x : Int} (h : 0 ≤ x ∧ x ≤ 65535) : Jq .u16 x 1 = x % 2 := by
  obtain ⟨n, rfl⟩ : ∃ n : Nat, x = n := ⟨x.toNat, by omega⟩
  have e0 : IntKind.u16.bits = 16 := rfl
  have e1 : (BitVec.ofInt 16 (n : Int)).toNat = n := by
    rw [BitVec.ofInt_natCast, BitVec.toNat_ofNat]; exact Nat.mod_eq_of_lt (by omega)
  have e2 : (BitVec.ofInt 16 1).toNat = 2 ^ 1 - 1 := rfl
  unfold Jq
  rw [e0, BitVec.toNat_and, e1, e2, Nat.and_two_pow_sub_one_eq_mod]
  have : n % 2 ^ 1 < 2 := Nat.mod_lt _ (by decide)
  simp only [IntKind.wrap, IntKind.signed, IntKind.bits]
  have e : (2 : Int) ^ 16 = 65536 := by decide
  simp [e]
  omega
theorem Zka (x : Int) : Jq .i64 x 1 = x % 2 := ZcK (v := x) (n := 1) (by decide)
def ckS (f : Vector Int 64) (k : Nat) : Int := ((pS (ZaS f) k).toNat : Int)
theorem ZmH (f : Vector Int 64) (j : Nat) : ckS f (j + 1) = if (!((!decide (Jq .i64 (ckS f j) 2097152 = 0)) == ZaS f j)) = true then Zhe .i64 (Jq .i64 (ckS f j * 2) 4194303) 2097167 else Jq .i64 (ckS f j * 2) 4194303 := by
  have := Zm6 (pS (ZaS f) j) (ZaS f j)
  unfold ckS
  rw [pS, this, Zpm, Bool.not_not, Zo1, Zpo]
  split <;> rfl
theorem Zk7 {f : Vector Int 64} (h : fU f) : ZaJ f = some (ckS f 744) := by
  have inner : ∀ i : Nat, i < 62 → loop (t2 (Xs f (i : Int))) (ckS f (12 * i), 11) = some (ckS f (12 * (i + 1))) := fun i hi => by
    have hw := h i
    have := Znf (body := Xs f (i : Int)) (fun j => ckS f (12 * i + j)) (ckS f (12 * (i + 1))) (b := 12) (fun k hk => by
      have hd := Zor hw k
      have hv := (pS (ZaS f) (12 * i + (12 - 1 - k))).isLt
      unfold Xs
      have e1 : shl .i64 (ckS f (12 * i + (12 - 1 - k))) 1 = some (ckS f (12 * i + (12 - 1 - k)) * 2) := Zpb _
      rw [if_pos (by simp), e1, Option.bind_some, XZ f (by omega), Option.bind_some, Zm2 _ (by omega), Option.bind_some, Zkg hd, ZbN (by omega) (by omega)]
      have eb : ZaS f (12 * i + (12 - 1 - k)) = decide (wd f i / (2 : Int) ^ k % 2 = 1) := by
        unfold ZaS
        rw [decide_eq_true (show 12 * i + (12 - 1 - k) < 744 by omega), Bool.true_and, show (12 * i + (12 - 1 - k)) / 12 = i by omega, show 11 - (12 * i + (12 - 1 - k)) % 12 = k by omega]
      have := ZmH f (12 * i + (12 - 1 - k))
      rw [eb] at this
      rw [show 12 * i + (12 - k) = 12 * i + (12 - 1 - k) + 1 by omega, this]
      split <;> rfl) (by unfold Xs; rw [if_neg (by decide)]; rw [show 12 * (i + 1) = 12 * i + 12 by omega])
    exact this
  have := Zcs (body := X5 f) (fun i => ckS f (12 * i)) (ckS f 744) (a := 0) (b := 62) (by decide) (fun k _ hk => by
    unfold X5
    rw [if_pos (by simp; omega), inner k hk, Option.bind_some, ZhT, ZbN (by omega) (by omega)]) (by unfold X5; rw [if_neg (by decide)])
  unfold ZaJ
  have e0 : ((0 : Int), (0 : Int)) = ((fun i => ckS f (12 * i)) 0, ((0 : Nat) : Int)) := rfl
  rw [e0, this]
  rfl
def rkS (f : Vector Int 64) (k : Nat) : Int := ((rS (ZaS f) k).toNat : Int)
theorem Zoc {f : Vector Int 64} (h : fU f) : ZcG f = some (ckS f 744) := by
  have hfin : rkS f 766 = ckS f 744 := by
    unfold rkS ckS
    rw [show 766 = 744 + 22 from rfl, Zox (fun k hk => by unfold ZaS; rw [decide_eq_false (by omega), Bool.false_and])]
  have := Zcs (body := ZaI f) (rkS f) (ckS f 744) (a := 0) (b := 766) (by decide) (fun k _ hk => by
    have hv := (rS (ZaS f) k).isLt
    have hb : ((if (decide ((k : Int) < 744)) = true then (quo .i64 (k : Int) 12).bind fun q => (ZJ f q).bind fun x => (rem (k : Int) 12).bind fun q2 => (shr .i64 (i64 x) (i64 (11 - q2))).bind fun q3 => some (Jq .i64 q3 1) else some 0) : Option Int) = some ((ZaS f k).toNat : Int) := by
      by_cases hk2 : k < 744
      · have hw := h (k / 12)
        rw [if_pos (by simp; omega)]
        have e1 : quo .i64 (k : Int) 12 = some ((k / 12 : Nat) : Int) := by
          unfold quo
          rw [if_neg (by decide), Int.tdiv_eq_ediv_of_nonneg (by omega), w64 (by omega) (by omega)]
          rfl
        rw [e1, Option.bind_some, XZ f (by omega), Option.bind_some, Zf4 (by omega) _ (by decide), Option.bind_some, ZbN (by omega) (by omega)]
        have e2 : i64 (11 - (k : Int) % 12) = ((11 - k % 12 : Nat) : Int) := by rw [ZbN (by omega) (by omega)]; omega
        rw [e2, Zi1 _ (by omega), Option.bind_some, Zka]
        unfold ZaS
        rw [decide_eq_true hk2, Bool.true_and]
        generalize wd f (k / 12) / (2 : Int) ^ (11 - k % 12) = z
        by_cases hz : z % 2 = 1
        · rw [decide_eq_true hz, hz]; rfl
        · rw [decide_eq_false hz, show z % 2 = 0 by omega]; rfl
      · rw [if_neg (by simp; omega)]
        unfold ZaS
        rw [decide_eq_false hk2, Bool.false_and]; rfl
    unfold ZaI
    rw [if_pos (by simp; omega), hb, Option.bind_some, ZhT]
    have hbl : (ZaS f k).toNat ≤ 1 := by cases ZaS f k <;> decide
    have hs := Znh (rS (ZaS f) k) (ZaS f k)
    simp only at hs
    have er : i64 (i64 (rkS f k * 2) + ((ZaS f k).toNat : Int)) = ((2 * (rS (ZaS f) k).toNat + (ZaS f k).toNat : Nat) : Int) := by
      unfold rkS
      rw [ZbN (z := ((rS (ZaS f) k).toNat : Int) * 2) (by omega) (by omega), ZbN (by omega) (by omega)]; push_cast; omega
    have en : rkS f (k + 1) = ((zS (rS (ZaS f) k) ^^^ (if ZaS f k then 1#22 else 0#22)).toNat : Int) := rfl
    rw [er, en, ← hs, ZbN (z := (k : Int) + 1) (by omega) (by omega)]
    by_cases hc : 4194304 ≤ 2 * (rS (ZaS f) k).toNat + (ZaS f k).toNat
    · rw [if_pos (by simp; omega), if_pos hc, show (6291471 : Int) = ((6291471 : Nat) : Int) from rfl, Zkk (by omega) (by omega)]
    · rw [if_neg (by simp; omega), if_neg hc]) (by unfold ZaI; rw [if_neg (by decide), hfin])
  unfold ZcG
  rw [show ((0 : Int), (0 : Int)) = (rkS f 0, ((0 : Nat) : Int)) from rfl, this]
  rfl
end Go.Vx

namespace Go.Vx
open Go Go.RowKit
noncomputable def ZjH (x : Int) : Bool := (ZdK x).getD false
def ZmS (f : Vector Int 64) (k : Nat) : Bool := decide (wd f k ≤ 4095)
def ZkF (f : Vector Int 64) : Bool := (List.range' 0 64).all (ZmS f)
def Zdu (n : Int) : Int := gv_frame_syncs.toList.getD (n % 4).toNat 0
theorem ZiR {n : Int} (h : 0 ≤ n) : rem n 4 = some (n % 4) ∧ ZJ gv_frame_syncs (n % 4) = some (Zdu n) := by
  refine ⟨Zf4 h _ (by decide), ?_⟩
  unfold ZJ Zdu
  rw [if_pos (by omega)]
  obtain ⟨x, hx⟩ := Qm (xs := gv_frame_syncs.toList) (k := (n % 4).toNat) (by simp; omega)
  rw [List.getD_eq_getElem?_getD, hx]; rfl
theorem Zms {n : Int} (h : 0 ≤ n) : Zcf n = some (Zdu n) := by
  unfold Zcf
  have := (ZiR h).2
  unfold gv_frame_syncs at this
  rw [(ZiR h).1, Option.bind_some, this, Option.bind_some]
noncomputable def Zph (f : Vector Int 64) (k : Nat) : Bool := ZjH (wd f k)
def ckW (f : Vector Int 64) : Int := wd f 62 % 2048 * 2048 + wd f 63 % 2048
noncomputable def sndB (f : Vector Int 64) : Bool := ZkF f && (decide (wd f 0 = Zdu (JX f)) && (decide (wd f 61 % 2048 = ZbF f 60) && ((List.range' 1 63).all (Zph f) && decide (ckW f = ckS f 744))))
end Go.Vx

namespace Go.Vx
open Go Go.RowKit
end Go.Vx

namespace Go.Vx
open Go Go.RowKit
end Go.Vx

namespace Go.Vx
open Go Go.RowKit
noncomputable def numN (f : Vector Int 64) : Int × Bool := if (ZjH (wd f 1) && ZjH (wd f 2)) = true then (JX f, true) else (0, false)
end Go.Vx

namespace Go.Vx
open Go Go.RowKit
noncomputable def Znu (n : Nat) : Bool := match QU (n : Int) with
  | some w => decide (0 ≤ w) && (decide (w ≤ 4095) && (decide (w % 2048 = (n : Int)) && ZjH w))
  | none => false
theorem ZlE : (List.range 2048).all Znu = true := by decide +kernel
noncomputable def wdv (d : Int) : Int := (QU d).getD 0
theorem XH {d : Int} (h : 0 ≤ d ∧ d ≤ 2047) : QU d = some (wdv d) ∧ (0 ≤ wdv d ∧ wdv d ≤ 4095) ∧ wdv d % 2048 = d ∧ ZjH (wdv d) = true := by
  obtain ⟨n, rfl⟩ : ∃ n : Nat, d = n := ⟨d.toNat, by omega⟩
  have := List.all_eq_true.1 ZlE n (List.mem_range.2 (by omega))
  unfold Znu at this
  unfold wdv
  cases hw : QU (n : Int) with
  | none => rw [hw] at this; cases this
  | some w =>
    rw [hw] at this
    simp only [Bool.and_eq_true, decide_eq_true_eq] at this
    obtain ⟨a, b, c, d⟩ := this
    exact ⟨rfl, ⟨a, b⟩, c, d⟩
theorem Zbn (f : Vector Int 64) {i : Nat} (x : Int) (hi : i < 64) (j : Nat) : wd (ZU f (i : Int) x) j = if j = i then x else wd f j := by
  unfold wd
  rw [ZeJ, Int.toNat_natCast, List.getD_eq_getElem?_getD, List.getElem?_set]
  by_cases h : i = j
  · subst h
    rw [if_pos rfl, if_pos (by simp; omega), if_pos rfl]; rfl
  · rw [if_neg h, if_neg (fun e => h e.symm), List.getD_eq_getElem?_getD]
theorem ZiV (j : Nat) : wd (Vector.replicate 64 (0 : Int)) j = 0 := by
  unfold wd
  rw [Vector.toList_replicate, List.getD_eq_getElem?_getD, List.getElem?_replicate]; split <;> rfl
theorem Zhq {f g : Vector Int 64} : ∀ k, (∀ i, 1 ≤ i → i ≤ k → wd f i = wd g i) → ZbF f k = ZbF g k
  | 0, _ => rfl
  | k + 1, h => by rw [ZbF, ZbF, Zhq k (fun i a b => h i a (by omega)), h (k + 1) (by omega) (by omega)]
theorem Zkc {f g : Vector Int 64} (h : ∀ i, i < 62 → wd f i = wd g i) : ZaS f = ZaS g := by
  funext j
  unfold ZaS
  by_cases hj : j < 744
  · rw [h (j / 12) (by omega)]
  · rw [decide_eq_false hj]; rfl
noncomputable def Js (f0 : Vector Int 64) (data : List Int) : Nat → Vector Int 64
  | 0 => f0
  | k + 1 => ZU (Js f0 data k) ((3 + k : Nat) : Int) (wdv (data.getD k 0))
theorem ZiP (f0 : Vector Int 64) (data : List Int) (j : Nat) : ∀ k, k ≤ 58 → wd (Js f0 data k) j = if 3 ≤ j ∧ j < 3 + k then wdv (data.getD (j - 3) 0) else wd f0 j
  | 0, _ => by rw [Js, if_neg (by omega)]
  | k + 1, hk => by
    rw [Js, Zbn _ _ (by omega), ZiP f0 data j k (by omega)]
    by_cases hj : j = 3 + k
    · subst hj
      rw [if_pos rfl, if_pos (by omega), show 3 + k - 3 = k by omega]
    · rw [if_neg hj]
      by_cases h2 : 3 ≤ j ∧ j < 3 + k
      · rw [if_pos h2, if_pos (by omega)]
      · rw [if_neg h2, if_neg (by omega)]
noncomputable def ZbY (f : Vector Int 64) : Vector Int 64 := ZU f ((0 : Nat) : Int) (Zdu (JX f))
noncomputable def XF (f : Vector Int 64) : Vector Int 64 := ZU (ZbY f) ((61 : Nat) : Int) (wdv (ZbF (ZbY f) 60))
noncomputable def Zhg (f : Vector Int 64) : Vector Int 64 := ZU (XF f) ((62 : Nat) : Int) (wdv (ckS (XF f) 744 / 2048))
noncomputable def Zco (f : Vector Int 64) : Vector Int 64 := ZU (Zhg f) ((63 : Nat) : Int) (wdv (ckS (XF f) 744 % 2048))
theorem Zkj (f : Vector Int 64) (k : Nat) : 0 ≤ ckS f k ∧ ckS f k < 4194304 := by
  unfold ckS
  have := (pS (ZaS f) k).isLt
  omega
theorem Ziz (n : Int) : 0 ≤ Zdu n ∧ Zdu n ≤ 4095 := by
  unfold Zdu
  have h : n % 4 = 0 ∨ n % 4 = 1 ∨ n % 4 = 2 ∨ n % 4 = 3 := by omega
  rcases h with e | e | e | e <;> rw [e] <;> decide
theorem Zgb {f : Vector Int 64} (h : fU f) {i : Nat} (hi : i < 64) {x : Int} (hx : 0 ≤ x ∧ x ≤ 65535) : fU (ZU f (i : Int) x) := by
  intro j
  rw [Zbn f x hi]
  split
  · exact hx
  · exact h j
theorem Zmz {f : Vector Int 64} (h : fU f) : Zbb f = some (Zco f) := by
  have hb := Zkw f
  have hsy := Ziz (JX f)
  have h1 : fU (ZbY f) := Zgb h (by decide) (by omega)
  have hsb := Zg3 (ZbY f) 60
  obtain ⟨w1, w2, _, _⟩ := XH (d := ZbF (ZbY f) 60) (by omega)
  have h2 : fU (XF f) := Zgb h1 (by decide) (by omega)
  have hcb := Zkj (XF f) 744
  obtain ⟨v1, v2, _, _⟩ := XH (d := ckS (XF f) 744 / 2048) (by omega)
  obtain ⟨u1, u2, _, _⟩ := XH (d := ckS (XF f) 744 % 2048) (by omega)
  have i0 : ZJ f 0 = some (wd f 0) := XZ f (i := 0) (by decide)
  have i61 : ZJ (ZbY f) 61 = some (wd (ZbY f) 61) := XZ _ (i := 61) (by decide)
  have i62 : ZJ (XF f) 62 = some (wd (XF f) 62) := XZ _ (i := 62) (by decide)
  have i63 : ZJ (Zhg f) 63 = some (wd (Zhg f) 63) := XZ _ (i := 63) (by decide)
  have e1 : ZU f 0 (Zdu (JX f)) = ZbY f := rfl
  have e2 : ZU (ZbY f) 61 (wdv (ZbF (ZbY f) 60)) = XF f := rfl
  have e3 : ZU (XF f) 62 (wdv (ckS (XF f) 744 / 2048)) = Zhg f := rfl
  have e4 : ZU (Zhg f) 63 (wdv (ckS (XF f) 744 % 2048)) = Zco f := rfl
  have sh : shr .i64 (ckS (XF f) 744) 11 = some (ckS (XF f) 744 / 2048) := Zi1 _ (k := 11) (by decide)
  have bd : Jq .i64 (ckS (XF f) 744) 2047 = ckS (XF f) 744 % 2048 := ZcK (v := ckS (XF f) 744) (n := 11) (by decide)
  unfold Zbb
  rw [(ZlQ h).1, Option.bind_some, (ZiR hb.1).1, Option.bind_some, (ZiR hb.1).2, Option.bind_some, i0, Option.bind_some, e1, (ZkC h1).1, Option.bind_some, w1, Option.bind_some, i61, Option.bind_some, e2, Zk7 h2, Option.bind_some, sh, Option.bind_some, v1, Option.bind_some, bd, u1, Option.bind_some, i62, Option.bind_some, e3, i63, Option.bind_some, e4]
structure Made (f : Vector Int 64) (n : Int) (data : List Int) : Prop where
  u : fU f
  nar : ∀ i, wd f i ≤ 4095
  snd : sndB f = true
  num : numN f = (n, true)
  dat : ∀ j, j < 58 → wd f (3 + j) % 2048 = data.getD j 0
noncomputable def beg (n : Int) : Vector Int 64 := ZU (ZU (Vector.replicate 64 (0 : Int)) ((1 : Nat) : Int) (wdv (n % 2048))) ((2 : Nat) : Int) (wdv (n / 2048))
theorem ZnG {n : Int} {data : List Int} (hn : 0 ≤ n ∧ n < 4194304) (hl : data.length = 58) (hd : ∀ d ∈ data, 0 ≤ d ∧ d ≤ 2047) : (∀ j, wd (Js (beg n) data 58) j = if 3 ≤ j ∧ j < 61 then wdv (data.getD (j - 3) 0) else if j = 2 then wdv (n / 2048) else if j = 1 then wdv (n % 2048) else 0) ∧ ∀ j, 0 ≤ wd (Js (beg n) data 58) j ∧ wd (Js (beg n) data 58) j ≤ 4095 := by
  obtain ⟨a1, a2, a3, a4⟩ := XH (d := n % 2048) (by omega)
  obtain ⟨b1, b2, b3, b4⟩ := XH (d := n / 2048) (by omega)
  have hg : ∀ k, k < 58 → 0 ≤ data.getD k 0 ∧ data.getD k 0 ≤ 2047 := fun k hk => by
    obtain ⟨x, hx⟩ := Qm (xs := data) (k := k) (by omega)
    rw [List.getD_eq_getElem?_getD, hx]
    exact hd x (List.mem_of_getElem? hx)
  have hbeg : ∀ j, wd (beg n) j = if j = 2 then wdv (n / 2048) else if j = 1 then wdv (n % 2048) else 0 := fun j => by
    unfold beg
    rw [Zbn _ _ (by decide), Zbn _ _ (by decide), ZiV]
  have hW : ∀ j, wd (Js (beg n) data 58) j = if 3 ≤ j ∧ j < 61 then wdv (data.getD (j - 3) 0) else if j = 2 then wdv (n / 2048) else if j = 1 then wdv (n % 2048) else 0 := fun j => by
    rw [ZiP _ _ _ 58 (by decide), hbeg]
  have hU : ∀ j, 0 ≤ wd (Js (beg n) data 58) j ∧ wd (Js (beg n) data 58) j ≤ 4095 := fun j => by
    rw [hW]
    split
    · exact (XH (hg (j - 3) (by omega))).2.1
    · split
      · exact b2
      · split
        · exact a2
        · omega
  exact ⟨hW, hU⟩
theorem Znz {n : Int} {data : List Int} (hn : 0 ≤ n ∧ n < 4194304) (hl : data.length = 58) (hd : ∀ d ∈ data, 0 ≤ d ∧ d ≤ 2047) : Zai n data = some (Zco (Js (beg n) data 58), 0) := by
  obtain ⟨a1, a2, a3, a4⟩ := XH (d := n % 2048) (by omega)
  obtain ⟨b1, b2, b3, b4⟩ := XH (d := n / 2048) (by omega)
  obtain ⟨_, hU⟩ := ZnG hn hl hd
  have hfU : fU (Js (beg n) data 58) := fun j => by have := hU j; omega
  have L := Zcs (body := Zac data) (Js (beg n) data) (.inr (Js (beg n) data 58) : (Vector Int 64 × Int) ⊕ Vector Int 64) (a := 0) (b := 58) (by decide) (fun k _ hk => by
    obtain ⟨x, hx⟩ := Qm (xs := data) (k := k) (by omega)
    have hdx := hd x (List.mem_of_getElem? hx)
    have hgx : data.getD k 0 = x := by rw [List.getD_eq_getElem?_getD, hx]; rfl
    unfold Zac
    rw [if_pos (by rw [decide_eq_true_eq]; omega), Z8 hx, Option.bind_some, if_neg (by rw [decide_eq_false (by omega), decide_eq_false (by omega)]; decide), (XH hdx).1, Option.bind_some, ZbN (z := 3 + (k : Int)) (by omega) (by omega), show 3 + (k : Int) = ((3 + k : Nat) : Int) by push_cast; rfl, XZ _ (by omega), Option.bind_some, ZbN (by omega) (by omega), Js, hgx]) (by
    unfold Zac
    rw [if_neg (by rw [decide_eq_true_eq]; omega)])
  have e0 : Jq .i64 n 2047 = n % 2048 := ZcK (v := n) (n := 11) (by decide)
  have e1 : shr .i64 n 11 = some (n / 2048) := Zi1 _ (k := 11) (by decide)
  have i1 : ZJ (Vector.replicate 64 (0 : Int)) 1 = some (wd (Vector.replicate 64 (0 : Int)) 1) := XZ _ (i := 1) (by decide)
  have i2 : ZJ (ZU (Vector.replicate 64 0) 1 (wdv (n % 2048))) 2 = some (wd (ZU (Vector.replicate 64 0) 1 (wdv (n % 2048))) 2) := XZ _ (i := 2) (by decide)
  have eb : ZU (ZU (Vector.replicate 64 0) 1 (wdv (n % 2048))) 2 (wdv (n / 2048)) = Js (beg n) data 0 := rfl
  unfold Zai
  rw [if_neg (by rw [decide_eq_false (by omega), decide_eq_false (by omega)]; decide), if_neg (by rw [decide_eq_true (by omega)]; decide), e0, a1, Option.bind_some, e1, Option.bind_some, b1, Option.bind_some, i1, Option.bind_some, i2, Option.bind_some, eb]
  have L' : loop (t2 (Zac data)) (Js (beg n) data 0, 0) = some (.inr (Js (beg n) data 58)) := L
  rw [L', Option.bind_some, Sum.elim_inr, ZhT, Zmz hfU, Option.bind_some]
theorem Zpk {n : Int} {data : List Int} (hn : 0 ≤ n ∧ n < 4194304) (hl : data.length = 58) (hd : ∀ d ∈ data, 0 ≤ d ∧ d ≤ 2047) : ∃ f, Zai n data = some (f, 0) ∧ Made f n data := by
  obtain ⟨a1, a2, a3, a4⟩ := XH (d := n % 2048) (by omega)
  obtain ⟨b1, b2, b3, b4⟩ := XH (d := n / 2048) (by omega)
  have hg : ∀ k, k < 58 → 0 ≤ data.getD k 0 ∧ data.getD k 0 ≤ 2047 := fun k hk => by
    obtain ⟨x, hx⟩ := Qm (xs := data) (k := k) (by omega)
    rw [List.getD_eq_getElem?_getD, hx]
    exact hd x (List.mem_of_getElem? hx)
  have hbeg : ∀ j, wd (beg n) j = if j = 2 then wdv (n / 2048) else if j = 1 then wdv (n % 2048) else 0 := fun j => by
    unfold beg
    rw [Zbn _ _ (by decide), Zbn _ _ (by decide), ZiV]
  have hW : ∀ j, wd (Js (beg n) data 58) j = if 3 ≤ j ∧ j < 61 then wdv (data.getD (j - 3) 0) else if j = 2 then wdv (n / 2048) else if j = 1 then wdv (n % 2048) else 0 := fun j => by
    rw [ZiP _ _ _ 58 (by decide), hbeg]
  have hU : ∀ j, 0 ≤ wd (Js (beg n) data 58) j ∧ wd (Js (beg n) data 58) j ≤ 4095 := fun j => by
    rw [hW]
    split
    · exact (XH (hg (j - 3) (by omega))).2.1
    · split
      · exact b2
      · split
        · exact a2
        · omega
  have hfU : fU (Js (beg n) data 58) := fun j => by have := hU j; omega
  refine ⟨Zco (Js (beg n) data 58), Znz hn hl hd, ?_⟩
  generalize hF : Js (beg n) data 58 = F at hU hfU hW
  have hsy := Ziz (JX F)
  have h1 : fU (ZbY F) := Zgb hfU (by decide) (by omega)
  have hsb := Zg3 (ZbY F) 60
  obtain ⟨_, w2, w3, w4⟩ := XH (d := ZbF (ZbY F) 60) (by omega)
  have h2 : fU (XF F) := Zgb h1 (by decide) (by omega)
  have hcb := Zkj (XF F) 744
  obtain ⟨_, v2, v3, v4⟩ := XH (d := ckS (XF F) 744 / 2048) (by omega)
  obtain ⟨_, u2, u3, u4⟩ := XH (d := ckS (XF F) 744 % 2048) (by omega)
  have g1 : ∀ j, wd (ZbY F) j = if j = 0 then Zdu (JX F) else wd F j := fun j => Zbn _ _ (by decide) j
  have g2 : ∀ j, wd (XF F) j = if j = 61 then wdv (ZbF (ZbY F) 60) else wd (ZbY F) j := fun j => Zbn _ _ (by decide) j
  have g3 : ∀ j, wd (Zhg F) j = if j = 62 then wdv (ckS (XF F) 744 / 2048) else wd (XF F) j := fun j => Zbn _ _ (by decide) j
  have g4 : ∀ j, wd (Zco F) j = if j = 63 then wdv (ckS (XF F) 744 % 2048) else wd (Zhg F) j := fun j => Zbn _ _ (by decide) j
  have G : ∀ j, 1 ≤ j → j ≤ 60 → wd (Zco F) j = wd F j := fun j a b => by rw [g4, if_neg (by omega), g3, if_neg (by omega), g2, if_neg (by omega), g1, if_neg (by omega)]
  have G1 : ∀ j, 1 ≤ j → j ≤ 60 → wd (ZbY F) j = wd F j := fun j a b => by rw [g1, if_neg (by omega)]
  have K0 : wd (Zco F) 0 = Zdu (JX F) := by rw [g4, if_neg (by decide), g3, if_neg (by decide), g2, if_neg (by decide), g1, if_pos rfl]
  have K61 : wd (Zco F) 61 = wdv (ZbF (ZbY F) 60) := by rw [g4, if_neg (by decide), g3, if_neg (by decide), g2, if_pos rfl]
  have K62 : wd (Zco F) 62 = wdv (ckS (XF F) 744 / 2048) := by rw [g4, if_neg (by decide), g3, if_pos rfl]
  have K63 : wd (Zco F) 63 = wdv (ckS (XF F) 744 % 2048) := by rw [g4, if_pos rfl]
  have f1 : wd F 1 = wdv (n % 2048) := by rw [hW, if_neg (by omega), if_neg (by decide), if_pos rfl]
  have f2 : wd F 2 = wdv (n / 2048) := by rw [hW, if_neg (by omega), if_pos rfl]
  have fD : ∀ j, j < 58 → wd F (3 + j) = wdv (data.getD j 0) := fun j hj => by rw [hW, if_pos (by omega), show 3 + j - 3 = j by omega]
  have efn : JX (Zco F) = JX F := by unfold JX; rw [G 1 (by decide) (by decide), G 2 (by decide) (by decide)]
  have fnv : JX F = n := by unfold JX; rw [f1, f2, a3, b3]; omega
  have hall : ∀ j, 0 ≤ wd (Zco F) j ∧ wd (Zco F) j ≤ 4095 := fun j => by
    rw [g4]; split
    · exact u2
    · rw [g3]; split
      · exact v2
      · rw [g2]; split
        · exact w2
        · rw [g1]; split
          · exact hsy
          · exact hU j
  have o1 : ZjH (wd (Zco F) 1) = true := by rw [G 1 (by decide) (by decide), f1]; exact a4
  have o2 : ZjH (wd (Zco F) 2) = true := by rw [G 2 (by decide) (by decide), f2]; exact b4
  have odd : ∀ j, 1 ≤ j → j < 64 → ZjH (wd (Zco F) j) = true := fun j a b => by
    rcases Nat.lt_or_ge j 61 with hj | hj
    · rcases (show j = 1 ∨ j = 2 ∨ 3 ≤ j by omega) with rfl | rfl | h3
      · exact o1
      · exact o2
      · rw [G j a (by omega), show j = 3 + (j - 3) by omega, fD _ (by omega)]
        exact (XH (hg _ (by omega))).2.2.2
    · rcases (show j = 61 ∨ j = 62 ∨ j = 63 by omega) with rfl | rfl | rfl
      · rw [K61]; exact w4
      · rw [K62]; exact v4
      · rw [K63]; exact u4
  refine ⟨fun j => by have := hall j; omega, fun j => (hall j).2, ?_, ?_, fun j hj => ?_⟩
  · unfold sndB
    have n1 : ZkF (Zco F) = true := List.all_eq_true.2 fun k _ => decide_eq_true (hall k).2
    have n2 : (List.range' 1 63).all (Zph (Zco F)) = true := List.all_eq_true.2 fun k hk => by
      obtain ⟨i, hi, rfl⟩ := List.mem_range'.1 hk
      exact odd _ (by omega) (by omega)
    have n3 : ZbF (Zco F) 60 = ZbF (ZbY F) 60 := Zhq 60 fun i a b => by rw [G i a b, G1 i a b]
    have n4 : ZaS (Zco F) = ZaS (XF F) := Zkc fun i hi => by rw [g4, if_neg (by omega), g3, if_neg (by omega)]
    have n5 : ckS (Zco F) 744 = ckS (XF F) 744 := by unfold ckS; rw [n4]
    have n6 : ckW (Zco F) = ckS (XF F) 744 := by unfold ckW; rw [K62, K63, v3, u3]; omega
    rw [n1, n2, n3, n5, n6, K0, efn, K61, w3, decide_eq_true rfl, decide_eq_true rfl, decide_eq_true rfl]
    rfl
  · unfold numN
    rw [o1, o2, efn, fnv]
    rfl
  · rw [G _ (by omega) (by omega), fD j hj]
    exact (XH (hg j hj)).2.2.1
end Go.Vx

namespace Go.Vx
open Go Go.RowKit
section
variable {α ε : Type}
def ZW (g : Nat → α → Option ε) : Nat → List α → Option ε
  | _, [] => none
  | k, x :: tl => match g k x with | some e => some e | none => ZW g (k + 1) tl
theorem Jh {ρ : Type} {xs : List α} (g : Nat → α → Option ε) (A : ε → ρ) (Z : ρ) {body : Int → Option (Int ⊕ ρ)}
    (h : ∀ (k : Nat) x, xs[k]? = some x → body k = JQ (fun e => some (.inr (A e))) (some (.inl ((k : Int) + 1))) (g k x))
    (hend : body xs.length = some (.inr Z)) : loop (t1 body) 0 = some (JQ A Z (ZW g 0 xs)) := by
  refine Zja (xs := xs) (fun k => JQ A Z (ZW g k (xs.drop k))) (fun k x hx => ?_) ?_
  · rw [h k x hx, ZP hx]
    simp only [ZW]
    cases hg : g k x with
    | some e => right; rfl
    | none => left; exact ⟨rfl, rfl⟩
  · rw [hend]; simp [ZW]
theorem ZgM {g g' : Nat → α → Option ε} : ∀ (k : Nat) (xs : List α), (∀ (j : Nat) x, xs[j]? = some x → g (k + j) x = g' (k + j) x) → ZW g k xs = ZW g' k xs
  | _, [], _ => rfl
  | k, x :: tl, h => by
    have h0 := h 0 x rfl
    rw [Nat.add_zero] at h0
    have ih := ZgM (g := g) (g' := g') (k + 1) tl fun j y hy => by
      have := h (j + 1) y (by simpa using hy)
      rwa [show k + (j + 1) = k + 1 + j by omega] at this
    simp only [ZW, h0]
    rw [ih]
theorem Zha {g : Nat → α → Option ε} : ∀ (k : Nat) (xs : List α), ZW g k xs = none → ∀ (j : Nat) x, xs[j]? = some x → g (k + j) x = none
  | _, [], _, j, x, hx => by simp at hx
  | k, y :: tl, h, j, x, hx => by
    simp only [ZW] at h
    cases hy : g k y with
    | some e => rw [hy] at h; cases h
    | none =>
      rw [hy] at h
      cases j with
      | zero => simp at hx; subst hx; simpa using hy
      | succ j =>
        have := Zha (k + 1) tl h j x (by simpa using hx)
        rwa [show k + 1 + j = k + (j + 1) by omega] at this
theorem Zio {p : α → Bool} : ∀ (k : Nat) (xs : List α), ZW (fun _ x => if p x then none else some ()) k xs = if xs.all p then none else some ()
  | _, [] => rfl
  | k, x :: tl => by
    have ih := Zio (p := p) (k + 1) tl
    simp only [ZW, List.all_cons]
    by_cases hp : p x = true
    · simp only [hp, if_true, Bool.true_and]; exact ih
    · have hp' : p x = false := by simpa using hp
      simp [hp']
end
theorem Znd {k : Nat} {n : Nat} (h : k < n) (hn : n ≤ 9223372036854775807) : i64 ((k : Int) + 1) = (k : Int) + 1 := Zkl (by omega) (by omega)
theorem Znj {s : Str} {k : Nat} {b : UInt8} (h : s[k]? = some b) : Zh3 s (k : Int) = some ((b.toNat : Nat) : Int) := by simp [Zh3, h]
def lcI (z : Int) : Bool := decide (97 ≤ z) && decide (z ≤ 122)
def nbI (z : Int) : Bool := (lcI z || (decide (48 ≤ z) && decide (z ≤ 57))) || decide (z = 45)
def lcB (b : UInt8) : Bool := lcI (b.toNat : Int)
def nbB (b : UInt8) : Bool := nbI (b.toNat : Int)
theorem ZnO {z : Int} (h : lcI z = true) : nbI z = true := by simp [nbI, h]
theorem Zjv {α : Type} {body : List α → Int → Option ((List α × Int) ⊕ (List α))} (n : Nat) (g : Nat → α)
    (hstep : ∀ (k : Nat) acc, k < n → acc.length = k → body acc k = some (.inl (acc ++ [g k], (k : Int) + 1)))
    (hend : ∀ acc, body acc n = some (.inr acc)) : loop (t2 body) ([], 0) = some ((List.range n).map g) := by
  have := ZcR (body := t2 body) (fun p => ∃ k : Nat, p.2 = k ∧ k ≤ n ∧ p.1 = (List.range k).map g) (fun p => n - p.2.toNat) (fun _ => (List.range n).map g) (by
    rintro ⟨acc, i⟩ ⟨k, hi, hk, ha⟩
    simp only at hi ha
    subst hi ha
    simp only [ZbA]
    rcases Nat.lt_or_ge k n with h | h
    · left
      refine ⟨_, hstep k _ h (by simp), ⟨k + 1, by push_cast; rfl, h, by simp [List.range_succ]⟩, by simp only; omega, trivial⟩
    · have : k = n := by omega
      subst this
      exact .inr (hend _)) ([], 0) ⟨0, rfl, Nat.zero_le _, rfl⟩
  exact this
end Go.Vx

namespace Go.Vx
open Go Go.RowKit
theorem ZnZ {s : ByteArray} {i : Nat} (h : (s.get! i).toNat < 128) : Utf8.decode s i = ((s.get! i).toNat, 1) := by
  simp only [Utf8.decode, Nat.add_zero]
  rw [if_pos h]
theorem Zoz {s : ByteArray} {i : Nat} (h : ¬ (s.get! i).toNat < 128) : 128 ≤ (Utf8.decode s i).1 := by
  simp only [Utf8.decode, Nat.add_zero]
  rw [if_neg h]
  repeat' split
  all_goals first
    | (simp only [Utf8.runeError]; omega)
    | (simp only [Bool.and_eq_true, decide_eq_true_eq] at *; omega)
    | (simp only; omega)
theorem ZmL {s : Str} {k : Nat} {b : UInt8} (h : s[k]? = some b) : (ByteArray.mk s.toArray).get! k = b := by
  simp [ByteArray.get!, h]
theorem ZkE {p : Nat → Bool} (hp : ∀ x, 128 ≤ x → p x = true) {s : Str} : ∀ (f pos : Nat), s.length ≤ pos + f →
    decide (0 ≤ Lib.idxFuncFrom p true ⟨s.toArray⟩ f pos) = (s.drop pos).any fun b => p b.toNat
  | 0, pos, h => by
    have : s.drop pos = [] := List.drop_eq_nil_of_le (by omega)
    rw [this]; simp [Lib.idxFuncFrom]
  | f + 1, pos, h => by
    have hsz : (ByteArray.mk s.toArray).size = s.length := by simp [ByteArray.size]
    unfold Lib.idxFuncFrom
    rw [hsz]
    rcases Nat.lt_or_ge pos s.length with hl | hl
    · obtain ⟨b, hb⟩ := Qm hl
      rw [if_pos hl, ZP hb, List.any_cons]
      have hg := ZmL hb
      by_cases h8 : b.toNat < 128
      · have hd : Utf8.decode ⟨s.toArray⟩ pos = (b.toNat, 1) := by rw [ZnZ (by rw [hg]; exact h8), hg]
        rw [hd]
        by_cases hpb : p b.toNat = true
        · rw [if_pos hpb]; simp only [hpb, Bool.true_or]; rw [decide_eq_true_eq]; omega
        · rw [if_neg hpb]
          have hpb' : p b.toNat = false := by simpa using hpb
          rw [hpb', Bool.false_or]
          exact ZkE hp f (pos + 1) (by omega)
      · have hd := Zoz (s := ⟨s.toArray⟩) (i := pos) (by rw [hg]; exact h8)
        rw [if_pos (hp _ hd), hp b.toNat (by omega), Bool.true_or, decide_eq_true_eq]; omega
    · have : s.drop pos = [] := List.drop_eq_nil_of_le (by omega)
      rw [if_neg (by omega), this]; simp
theorem Zm1 {s : Str} {f : Int → Option Bool} {p : Nat → Bool} (hf : ∀ x : Nat, f x = some (p x)) (hp : ∀ x, 128 ≤ x → p x = true) :
    Zae s f = some (s.any fun b => p b.toNat) := by
  unfold Zae
  rw [if_pos (fun x _ => by rw [hf]; rfl)]
  have e : (fun x : Nat => (f x).getD false) = p := by funext x; rw [hf]; rfl
  rw [e]
  have := ZkE hp (s := s) s.length 0 (by omega)
  rw [List.drop_zero] at this
  rw [← this]
  have hsz : (ByteArray.mk s.toArray).size = s.length := by simp [ByteArray.size]
  unfold Lib.idxFunc
  rw [hsz]
def nmL (s : Str) : Bool := match s with
  | [] => false
  | c :: tl => decide (tl.length ≤ 29) && lcB c && tl.all nbB
theorem Zk8 (x : Nat) : ZaN x = some (!nbI x) := rfl
theorem Zpi (x : Nat) (h : 128 ≤ x) : (!nbI x) = true := by
  have h1 : decide ((x : Int) ≤ 122) = false := by rw [decide_eq_false_iff_not]; omega
  have h2 : decide ((x : Int) ≤ 57) = false := by rw [decide_eq_false_iff_not]; omega
  have h3 : decide ((x : Int) = 45) = false := by rw [decide_eq_false_iff_not]; omega
  unfold nbI lcI
  rw [h1, h2, h3]; simp
theorem ZmI : ∀ s : Str, (s.any fun b => !nbI (b.toNat : Int)) = !(s.all nbB)
  | [] => rfl
  | c :: tl => by
    rw [List.any_cons, List.all_cons, Bool.not_and, ZmI tl]; rfl
theorem Zhj (s : Str) : XY s = some (nmL s) := by
  unfold XY
  cases s with
  | nil => simp [nmL, gd]
  | cons c tl =>
    have h0 : Zh3 (c :: tl) 0 = some ((c.toNat : Nat) : Int) := rfl
    have h1 : ¬ ((c :: tl).length : Int) < 1 := by simp; omega
    rw [Zm1 Zk8 Zpi, h0]
    simp only [h1, decide_false, Bool.false_or, nmL]
    by_cases h2 : 30 < ((c :: tl).length : Int)
    · have h3 : ¬ tl.length ≤ 29 := by simp at h2; omega
      simp only [h2, h3, decide_true, decide_false, Bool.true_or, Bool.false_and, if_true]
      simp [gd]
    · have h3 : tl.length ≤ 29 := by simp at h2; omega
      have ea : ((c :: tl).any fun b => !nbI (b.toNat : Int)) = !(nbB c && tl.all nbB) := ZmI (c :: tl)
      rw [ea]
      simp only [h2, h3, decide_false, decide_true, Bool.false_or, Zm7, Option.bind_some, beq_self_eq_true, Bool.true_and]
      by_cases h4 : (c.toNat : Int) < 97
      · have : lcB c = false := by simp [lcB, lcI]; omega
        simp [h4, this, gd]
      · by_cases h5 : 122 < (c.toNat : Int)
        · have : lcB c = false := by simp [lcB, lcI]; omega
          simp [h4, h5, this]
        · have e1 : lcB c = true := by simp [lcB, lcI]; omega
          have e2 : nbB c = true := ZnO e1
          simp [h4, h5, e1, e2]
theorem ZkT (s : Str) (hs : s.length ≤ 9223372036854775807) : Za7 s = some (nmL s) := by
  unfold Za7
  have hloop : loop (t1 (Ja s)) 0 = some (JQ (fun _ => Sum.inl false) (Sum.inr ()) (ZW (fun k b => if (lcB b || (decide (0 < k) && nbB b)) = true then none else some ()) 0 s)) := by
    refine Jh (xs := s) (body := Ja s) _ _ _ (fun k x hx => ?_) (by simp [Ja])
    have hlt := Xm hx
    have e1 : i64 ((k : Int) + 1) = (k : Int) + 1 := Znd (n := s.length) (by omega) hs
    simp only [Ja, hlt, decide_true, if_true, Znj hx, Option.bind_some, e1]
    have e2 : (((decide (97 ≤ ((x.toNat : Nat) : Int))) && (decide (((x.toNat : Nat) : Int) ≤ 122))) || ((decide (0 < (k : Int))) && (((decide (48 ≤ ((x.toNat : Nat) : Int))) && (decide (((x.toNat : Nat) : Int) ≤ 57))) || (decide (((x.toNat : Nat) : Int) = 45))))) = (lcB x || (decide (0 < k) && nbB x)) := by
      show (lcB x || (_ && _)) = _
      have ek : decide (0 < (k : Int)) = decide (0 < k) := by rw [decide_eq_decide]; omega
      rw [ek]
      unfold nbB nbI
      show _ = (lcB x || (_ && ((lcB x || _) || _)))
      cases lcB x <;> simp
    rw [e2]
    cases (lcB x || (decide (0 < k) && nbB x)) <;> simp
  rw [hloop]
  cases s with
  | nil => simp [nmL, ZW]
  | cons c tl =>
    have htl : ZW (fun k b => if (lcB b || (decide (0 < k) && nbB b)) = true then none else some ()) 1 tl = if tl.all nbB then none else some () := by
      rw [← Zio 1]
      refine ZgM 1 tl fun j x _ => ?_
      have : decide (0 < 1 + j) = true := decide_eq_true (by omega)
      rw [this, Bool.true_and]
      cases h : lcB x with
      | false => simp
      | true => have : nbB x = true := ZnO h; simp [this]
    simp only [ZW, htl, nmL]
    cases hc : lcB c with
    | false => simp
    | true =>
      cases ha : tl.all nbB with
      | false => simp
      | true =>
        have e1 : decide (1 ≤ ((c :: tl).length : Int)) = true := by rw [decide_eq_true_eq]; simp; omega
        have e2 : decide (((c :: tl).length : Int) ≤ 30) = decide (tl.length ≤ 29) := by rw [decide_eq_decide]; simp; omega
        simp only [e1, e2]; simp
theorem ZfD (p : api_Param) : Za5 p = Qv p := rfl
end Go.Vx

namespace Go.Vx
open Go Go.RowKit
def wiL (n a b : Int) : Bool := decide (a ≤ n) && decide (n ≤ b)
theorem ZdL {n a b : Int} : wiL n a b = true ↔ a ≤ n ∧ n ≤ b := by simp [wiL]
theorem ZcA (n a b : Int) : ZO n a b = some (wiL n a b) := rfl
theorem ZcO (n a b : Int) : Z7 n a b = some (!wiL n a b) := by
  unfold Z7 wiL
  congr 1
  rw [Bool.not_and]
  have e1 : decide (n < a) = !decide (a ≤ n) := by rw [← decide_not, decide_eq_decide]; omega
  have e2 : decide (b < n) = !decide (n ≤ b) := by rw [← decide_not, decide_eq_decide]; omega
  rw [e1, e2]
def bitsN (p : api_Param) : Int := (p.Parts.map (·.Bits)).sum
def ZbK (x : api_Part) : Bool := wiL x.Frame 0 15 && wiL x.Word 4 60 && wiL x.Low 0 10 && wiL x.Bits 1 (11 - x.Low)
def lenOK (p : api_Param) : Prop := p.Parts.length ≤ 8 ∧ ∀ x ∈ p.Parts, ZbK x = true
theorem JY {x : api_Part} : ZbK x = true ↔ (0 ≤ x.Frame ∧ x.Frame ≤ 15) ∧ (4 ≤ x.Word ∧ x.Word ≤ 60) ∧ (0 ≤ x.Low ∧ x.Low ≤ 10) ∧ (1 ≤ x.Bits ∧ x.Bits ≤ 11 - x.Low) := by
  simp [ZbK, wiL, and_assoc]
theorem Zmu {l : List api_Part} (h : ∀ x ∈ l, ZbK x = true) : (l.length : Int) ≤ (l.map (·.Bits)).sum ∧ (l.map (·.Bits)).sum ≤ 11 * (l.length : Int) := by
  induction l with
  | nil => simp
  | cons x l ih =>
    obtain ⟨h1, h2⟩ := ih fun y hy => h y (List.mem_cons_of_mem _ hy)
    have := JY.1 (h x List.mem_cons_self)
    simp only [List.map_cons, List.sum_cons, List.length_cons]
    push_cast
    omega
theorem ZdG {p : api_Param} (h : lenOK p) : Qv p = some (bitsN p) := by
  have key : loop (t2 (QA p)) (0, 0) = some (bitsN p) := by
    have := Zf5 (xs := p.Parts) (body := QA p) (I := fun n k => n + ((p.Parts.drop k).map (·.Bits)).sum = bitsN p ∧ 0 ≤ n ∧ n ≤ 11 * k) (F := fun _ _ => bitsN p)
      (fun n k x hI hx => by
        obtain ⟨h1, h2, h3⟩ := hI
        have hp := JY.1 (h.2 x (List.mem_of_getElem? hx))
        have hlt := Xm hx
        have h8 := h.1
        rw [ZP hx, List.map_cons, List.sum_cons] at h1
        left
        refine ⟨n + x.Bits, ?_, ⟨by omega, by omega, by push_cast; omega⟩, rfl⟩
        simp only [QA, hlt, decide_true, if_true, Z8 hx, Option.bind_some]
        rw [ZN (by omega) (by omega), ZN (by omega) (by omega)])
      (fun n hI => by
        obtain ⟨h1, _, _⟩ := hI
        rw [List.drop_length] at h1
        simp at h1
        simp [QA, h1]) (a0 := 0) ⟨by simp [bitsN], by omega, by omega⟩
    exact this
  unfold Qv
  rw [key]; rfl
theorem Zlb {xs : List Int} {v : Int} (hl : xs.length ≤ 9223372036854775807) : Z3 xs v = some (decide (v ∈ xs)) := by
  have key : loop (t1 (ZQ xs v)) 0 = some (JQ Sum.inl (Sum.inr ()) (ZW (fun k x => if v = x then some (k : Int) else none) 0 xs)) := by
    refine Jh (xs := xs) (body := ZQ xs v) _ _ _ (fun k x hx => ?_) (by simp [ZQ])
    have hlt := Xm hx
    simp only [ZQ, hlt, decide_true, if_true, Z8 hx, Option.bind_some]
    rw [Znd (n := xs.length) (by omega) hl]
    by_cases h : v = x <;> simp [h]
  have fnd : ∀ (k : Nat) (l : List Int), (v ∈ l ∧ ∃ j : Nat, ZW (fun k x => if v = x then some (k : Int) else none) k l = some (j : Int)) ∨ (v ∉ l ∧ ZW (fun k x => if v = x then some (k : Int) else none) k l = none) := by
    intro k l
    induction l generalizing k with
    | nil => right; simp [ZW]
    | cons x l ih =>
      by_cases h : v = x
      · left; subst h; exact ⟨List.mem_cons_self, k, by simp [ZW]⟩
      · rcases ih (k + 1) with ⟨h1, j, h2⟩ | ⟨h1, h2⟩
        · left; exact ⟨List.mem_cons_of_mem _ h1, j, by simp [ZW, h, h2]⟩
        · right; exact ⟨by simp [h, h1], by simp [ZW, h, h2]⟩
  unfold Z3 Qy
  rw [key]
  rcases fnd 0 xs with ⟨h1, j, h2⟩ | ⟨h1, h2⟩
  · rw [h2]; simp [h1]
  · rw [h2]; simp [h1]
theorem Zld {xs : List Str} {v : Str} (hl : xs.length ≤ 9223372036854775807) : ZL xs v = some (decide (v ∈ xs)) := by
  have key : loop (t1 (ZD xs v)) 0 = some (JQ Sum.inl (Sum.inr ()) (ZW (fun k x => if v = x then some (k : Int) else none) 0 xs)) := by
    refine Jh (xs := xs) (body := ZD xs v) _ _ _ (fun k x hx => ?_) (by simp [ZD])
    have hlt := Xm hx
    simp only [ZD, hlt, decide_true, if_true, Z8 hx, Option.bind_some]
    rw [Znd (n := xs.length) (by omega) hl]
    by_cases h : v = x <;> simp [h]
  have fnd : ∀ (k : Nat) (l : List Str), (v ∈ l ∧ ∃ j : Nat, ZW (fun k x => if v = x then some (k : Int) else none) k l = some (j : Int)) ∨ (v ∉ l ∧ ZW (fun k x => if v = x then some (k : Int) else none) k l = none) := by
    intro k l
    induction l generalizing k with
    | nil => right; simp [ZW]
    | cons x l ih =>
      by_cases h : v = x
      · left; subst h; exact ⟨List.mem_cons_self, k, by simp [ZW]⟩
      · rcases ih (k + 1) with ⟨h1, j, h2⟩ | ⟨h1, h2⟩
        · left; exact ⟨List.mem_cons_of_mem _ h1, j, by simp [ZW, h, h2]⟩
        · right; exact ⟨by simp [h, h1], by simp [ZW, h, h2]⟩
  unfold ZL Z2
  rw [key]
  rcases fnd 0 xs with ⟨h1, j, h2⟩ | ⟨h1, h2⟩
  · rw [h2]; simp [h1]
  · rw [h2]; simp [h1]
theorem ZfU {α : Type} {xs : List α} (p : α → Bool) {body : Int → Option (Int ⊕ Int ⊕ Unit)} (e : Int) (hl : xs.length ≤ 9223372036854775807)
    (h : ∀ (k : Nat) x, xs[k]? = some x → i64 ((k : Int) + 1) = (k : Int) + 1 → decide ((k : Int) < (xs.length : Int)) = true → body k = cond (p x) (some (.inl ((k : Int) + 1))) (some (.inr (.inl e))))
    (hend : body xs.length = some (.inr (.inr ()))) : loop (t1 body) 0 = some (if xs.all p = true then .inr () else .inl e) := by
  have := Zix (xs := xs) (fun x => if p x = true then none else some ()) (fun _ => (Sum.inl e : Int ⊕ Unit)) (Sum.inr ()) (body := body) (fun k x hx => by
    rw [h k x hx (Znd (n := xs.length) (by have := Xm hx; omega) hl) (by have := Xm hx; simpa using this)]
    by_cases hp : p x = true <;> simp [hp]) hend
  rw [this]
  congr 1
  clear this h hend hl
  induction xs with
  | nil => rfl
  | cons x xs ih =>
    by_cases hp : p x = true
    · simp only [Ze4, List.all_cons, hp, if_true, Bool.true_and]; exact ih
    · have : p x = false := by simpa using hp
      simp [Ze4, this]
theorem Zim (p : api_Param) (hl : p.Parts.length ≤ 8) : loop (t1 (ZX p)) 0 = some (if p.Parts.all ZbK = true then .inr () else .inl 9) := by
  refine ZfU (xs := p.Parts) ZbK 9 (by omega) (fun k x hx hi hlt => ?_) (by simp [ZX])
  simp only [ZX, hlt, if_true, Z8 hx, Option.bind_some, ZcA, hi, ZbK]
  cases wiL x.Frame 0 15
  · rfl
  cases wiL x.Word 4 60
  · rfl
  cases h3 : wiL x.Low 0 10
  · rfl
  have := ZdL.1 h3
  rw [ZN (by omega) (by omega)]
  cases wiL x.Bits 1 (11 - x.Low) <;> rfl
theorem ZlU (p : api_Param) : Ji p = ZX p := by
  funext i
  simp only [Ji, ZX, ZcA, ZcO, Option.bind_some]
  split
  · congr 1; funext x
    cases wiL x.Frame 0 15 <;> cases wiL x.Word 4 60 <;> cases wiL x.Low 0 10 <;> cases wiL x.Bits 1 (i64 (11 - x.Low)) <;> rfl
  · rfl
def stepOK (p : api_Param) (x : api_Part) : Bool := decide (p.Step ≤ 60) && decide (x.Word + (p.Times - 1) * p.Step ≤ 60)
def timA (p : api_Param) : Bool := decide (p.Every ∈ ([1, 2, 4, 8, 16] : List Int)) && wiL p.First 0 (p.Every - 1) && wiL p.Times 1 57 && decide (0 ≤ p.Step) && (decide (p.Step = 0) == decide (p.Times = 1))
def Zfn (p : api_Param) : Int := if timA p = true then (if p.Parts.all (stepOK p) = true then 0 else 9) else 9
def ZeS (p : api_Param) : Int := if p.Parts.length = 0 then 13 else if 8 < p.Parts.length then 3 else if p.Parts.all ZbK = true then (if 40 < bitsN p then 3 else 0) else 9
theorem Jt {p : api_Param} (h : timA p = true) : (p.Every = 1 ∨ p.Every = 2 ∨ p.Every = 4 ∨ p.Every = 8 ∨ p.Every = 16) ∧ (0 ≤ p.First ∧ p.First ≤ p.Every - 1) ∧ (1 ≤ p.Times ∧ p.Times ≤ 57) ∧ 0 ≤ p.Step ∧ (p.Step = 0 ↔ p.Times = 1) := by
  simp only [timA, Bool.and_eq_true, decide_eq_true_eq, ZdL, beq_iff_eq, decide_eq_decide] at h
  obtain ⟨⟨⟨⟨h1, h2⟩, h3⟩, h4⟩, h5⟩ := h
  exact ⟨by simpa using h1, h2, h3, h4, h5⟩
theorem Zky {t s : Int} (h1 : 1 ≤ t ∧ t ≤ 57) (h2 : 0 ≤ s) (h3 : s ≤ 60) : 0 ≤ (t - 1) * s ∧ (t - 1) * s ≤ 56 * 60 :=
  ⟨Int.mul_nonneg (by omega) h2, Int.mul_le_mul (by omega) h3 h2 (by omega)⟩
theorem Zln {p : api_Param} (hp : lenOK p) (ht : timA p = true) : loop (t1 (Qi p)) 0 = some (if p.Parts.all (stepOK p) = true then .inr () else .inl 9) := by
  obtain ⟨_, _, h3, h4, _⟩ := Jt ht
  have h8 := hp.1
  refine ZfU (xs := p.Parts) (stepOK p) 9 (by omega) (fun k x hx hi hlt => ?_) (by simp [Qi])
  simp only [Qi, hlt, if_true, Z8 hx, Option.bind_some, hi, stepOK]
  have hx' := JY.1 (hp.2 x (List.mem_of_getElem? hx))
  by_cases h6 : p.Step ≤ 60
  · have h7 : ¬ 60 < p.Step := by omega
    have hb := Zky h3 h4 h6
    rw [ZN (z := p.Times - 1) (by omega) (by omega), ZN (z := (p.Times - 1) * p.Step) (by omega) (by omega), ZN (by omega) (by omega)]
    by_cases h9 : x.Word + (p.Times - 1) * p.Step ≤ 60
    · have : ¬ 60 < x.Word + (p.Times - 1) * p.Step := by omega
      simp [h6, h7, h9, this]
    · have : 60 < x.Word + (p.Times - 1) * p.Step := by omega
      simp [h6, h7, h9, this]
  · have h7 : 60 < p.Step := by omega
    simp [h6, h7]
theorem Zkh {p : api_Param} (hp : lenOK p) (ht : timA p = true) : loop (t1 (Xv p)) 0 = some (if p.Parts.all (stepOK p) = true then .inr () else .inl 9) := by
  obtain ⟨_, _, h3, h4, h5⟩ := Jt ht
  have h8 := hp.1
  refine ZfU (xs := p.Parts) (stepOK p) 9 (by omega) (fun k x hx hi hlt => ?_) (by simp [Xv])
  simp only [Xv, hlt, if_true, Z8 hx, Option.bind_some, hi, stepOK]
  have hx' := JY.1 (hp.2 x (List.mem_of_getElem? hx))
  by_cases h1 : p.Times = 1
  · have hs := h5.2 h1
    rw [hs, h1]
    have h60 : ¬ (60 : Int) < x.Word := by omega
    have h61 : x.Word ≤ 60 := by omega
    rw [ZN (z := 1 - 1) (by decide) (by decide), ZN (z := (1 - 1) * 0) (by decide) (by decide), ZN (by omega) (by omega)]
    simp [h60, h61]
  · have h1' : 1 < p.Times := by omega
    by_cases h6 : p.Step ≤ 57
    · have h7 : ¬ 57 < p.Step := by omega
      have h60 : p.Step ≤ 60 := by omega
      have hb := Zky h3 h4 h60
      rw [ZN (z := p.Times - 1) (by omega) (by omega), ZN (z := (p.Times - 1) * p.Step) (by omega) (by omega), ZN (by omega) (by omega)]
      by_cases h9 : x.Word + (p.Times - 1) * p.Step ≤ 60
      · have : ¬ 60 < x.Word + (p.Times - 1) * p.Step := by omega
        simp [h6, h7, h9, this, h60]
      · have : 60 < x.Word + (p.Times - 1) * p.Step := by omega
        simp [h6, h7, h9, this]
    · have h7 : 57 < p.Step := by omega
      have hm : 1 * p.Step ≤ (p.Times - 1) * p.Step := Int.mul_le_mul_of_nonneg_right (by omega) h4
      have h9 : ¬ x.Word + (p.Times - 1) * p.Step ≤ 60 := by omega
      simp [h1', h7, h9]
theorem ZhP {p : api_Param} (h1 : ¬ 8 < p.Parts.length) (h2 : p.Parts.all ZbK = true) : lenOK p :=
  ⟨by omega, fun x hx => List.all_eq_true.1 h2 x hx⟩
theorem Zdf {p : api_Param} (h : ZeS p = 0) : lenOK p ∧ 1 ≤ p.Parts.length ∧ bitsN p ≤ 40 := by
  unfold ZeS at h
  split at h
  · cases h
  · split at h
    · cases h
    · split at h
      · rename_i h1 h2 h3
        split at h
        · cases h
        · exact ⟨ZhP h2 h3, by omega, by omega⟩
      · cases h
theorem ZlT (p : api_Param) : Jx p = some (ZeS p) := by
  unfold Jx ZeS
  by_cases h0 : p.Parts.length = 0
  · have : ((p.Parts.length : Nat) : Int) = 0 := by omega
    simp [h0]
  · have h0' : ¬ ((p.Parts.length : Nat) : Int) = 0 := by omega
    by_cases h8 : 8 < p.Parts.length
    · have h8' : (8 : Int) < ((p.Parts.length : Nat) : Int) := by omega
      rw [if_neg (by simpa using h0'), if_pos (by simpa using h8'), if_neg h0, if_pos h8]
    · have h8' : ¬ (8 : Int) < ((p.Parts.length : Nat) : Int) := by omega
      rw [if_neg (by simpa using h0'), if_neg (by simpa using h8'), if_neg h0, if_neg h8, ZlU, Zim p (by omega)]
      by_cases ha : p.Parts.all ZbK = true
      · rw [if_pos ha, if_pos ha, ZfD, ZdG (ZhP h8 ha)]
        by_cases hb : 40 < bitsN p <;> simp [hb]
      · rw [if_neg ha, if_neg ha]; rfl
theorem ZmT (p : api_Param) : QE p = some (if ZeS p = 0 then Zfn p else ZeS p) := by
  unfold QE ZeS
  by_cases h0 : p.Parts.length = 0
  · have : ((p.Parts.length : Nat) : Int) = 0 := by omega
    simp [h0]
  · have h0' : ¬ ((p.Parts.length : Nat) : Int) = 0 := by omega
    by_cases h8 : 8 < p.Parts.length
    · have h8' : (8 : Int) < ((p.Parts.length : Nat) : Int) := by omega
      rw [if_neg (by simpa using h0'), if_pos (by simpa using h8'), if_neg h0, if_pos h8]; rfl
    · have h8' : ¬ (8 : Int) < ((p.Parts.length : Nat) : Int) := by omega
      rw [if_neg (by simpa using h0'), if_neg (by simpa using h8'), if_neg h0, if_neg h8, Zim p (by omega)]
      by_cases ha : p.Parts.all ZbK = true
      · have hp := ZhP h8 ha
        rw [if_pos ha, if_pos ha, ZdG hp]
        by_cases hb : 40 < bitsN p
        · simp [hb]
        · simp only [Option.bind_some, Sum.elim_inr, t0, hb, decide_false, if_false, Zlb (by decide : ([1, 2, 4, 8, 16] : List Int).length ≤ 9223372036854775807), ZcA, Bool.false_eq_true, if_true]
          have hcond : (∃ a b c, (a = decide (p.Every ∈ ([1, 2, 4, 8, 16] : List Int))) ∧ b = wiL p.First 0 (i64 (p.Every - 1)) ∧ c = wiL p.Times 1 57) := ⟨_, _, _, rfl, rfl, rfl⟩
          by_cases hE : p.Every ∈ ([1, 2, 4, 8, 16] : List Int)
          · have hE' : p.Every = 1 ∨ p.Every = 2 ∨ p.Every = 4 ∨ p.Every = 8 ∨ p.Every = 16 := by simpa using hE
            rw [ZN (z := p.Every - 1) (by omega) (by omega)]
            by_cases hA : timA p = true
            · have hA' := hA
              simp only [timA, Bool.and_eq_true] at hA'
              obtain ⟨⟨⟨⟨_, a2⟩, a3⟩, a4⟩, a5⟩ := hA'
              have a6 : decide (p.Step < 0) = false := by
                rw [decide_eq_false_iff_not]
                have := of_decide_eq_true a4
                omega
              simp only [hE, decide_true, Bool.not_true, beq_self_eq_true, Zm7, a2, a3, a5, a6, Option.bind_some, Bool.or_false, Bool.false_eq_true, if_false, Zln hp hA, Zfn, hA, if_true]
              by_cases hs : p.Parts.all (stepOK p) = true
              · rw [if_pos hs, if_pos hs]; rfl
              · rw [if_neg hs, if_neg hs]; rfl
            · have hA2 : timA p = false := by simpa using hA
              have e4 : decide (p.Step < 0) = !decide (0 ≤ p.Step) := by rw [← decide_not, decide_eq_decide]; omega
              simp only [timA, hE, decide_true, Bool.true_and] at hA2
              simp only [Zfn, if_neg hA, hE, decide_true, Bool.not_true, e4]
              revert hA2
              cases wiL p.First 0 (p.Every - 1) <;> cases wiL p.Times 1 57 <;> cases decide (0 ≤ p.Step) <;> cases (decide (p.Step = 0) == decide (p.Times = 1)) <;> intro hA2 <;> first | rfl | (exact absurd hA2 (by decide))
          · have hA : ¬ timA p = true := by simp [timA, hE]
            simp only [Zfn, if_neg hA, hE, decide_false, Bool.not_false]
            rfl
      · rw [if_neg ha, if_neg ha]; rfl
theorem Zl4 {p : api_Param} (h : ZeS p = 0) : Jy p = some (Zfn p) := by
  obtain ⟨hp, _, _⟩ := Zdf h
  unfold Jy
  have e4 : decide (p.Step < 0) = !decide (0 ≤ p.Step) := by rw [← decide_not, decide_eq_decide]; omega
  by_cases hE : p.Every ∈ ([1, 2, 4, 8, 16] : List Int)
  · have hE' : p.Every = 1 ∨ p.Every = 2 ∨ p.Every = 4 ∨ p.Every = 8 ∨ p.Every = 16 := by simpa using hE
    have hsw : ((if (decide (p.Every = 1)) = true then
  if (decide (p.Every = 1)) = true then
  some (.inr ())
  else
  some (.inl 9)
  else
  if (decide (p.Every = 2)) = true then
  if (decide (p.Every = 2)) = true then
  some (.inr ())
  else
  some (.inl 9)
  else
  if (decide (p.Every = 4)) = true then
  if (decide (p.Every = 4)) = true then
  some (.inr ())
  else
  some (.inl 9)
  else
  if (decide (p.Every = 8)) = true then
  if (decide (p.Every = 8)) = true then
  some (.inr ())
  else
  some (.inl 9)
  else
  if (decide (p.Every = 16)) = true then
  some (.inr ())
  else
  some (.inl 9)) : Option ((Int) ⊕ (Unit))) = some (.inr ()) := by
      rcases hE' with h | h | h | h | h <;> rw [h] <;> rfl
    rw [hsw]
    simp only [Option.bind_some, Sum.elim_inr, t0, ZcO]
    rw [ZN (z := p.Every - 1) (by omega) (by omega), e4]
    by_cases hA : timA p = true
    · have hA' := hA
      simp only [timA, Bool.and_eq_true] at hA'
      obtain ⟨⟨⟨⟨_, a2⟩, a3⟩, a4⟩, a5⟩ := hA'
      simp only [a2, a3, a4, a5, Bool.not_true, beq_self_eq_true, Zm7, Option.bind_some, Bool.or_false, Bool.false_eq_true, if_false, Zkh hp hA, Zfn, hA, if_true]
      by_cases hs : p.Parts.all (stepOK p) = true
      · rw [if_pos hs, if_pos hs]; rfl
      · rw [if_neg hs, if_neg hs]; rfl
    · have hA2 : timA p = false := by simpa using hA
      simp only [timA, hE, decide_true, Bool.true_and] at hA2
      simp only [Zfn, if_neg hA]
      revert hA2
      cases wiL p.First 0 (p.Every - 1) <;> cases wiL p.Times 1 57 <;> cases decide (0 ≤ p.Step) <;> cases (decide (p.Step = 0) == decide (p.Times = 1)) <;> intro hA2 <;> first | rfl | (exact absurd hA2 (by decide))
  · have hA : ¬ timA p = true := by simp [timA, hE]
    have hE' : ¬ p.Every = 1 ∧ ¬ p.Every = 2 ∧ ¬ p.Every = 4 ∧ ¬ p.Every = 8 ∧ ¬ p.Every = 16 := by simpa using hE
    obtain ⟨n1, n2, n4, n8, n16⟩ := hE'
    simp [n1, n2, n4, n8, n16, Zfn, hA]
end Go.Vx


namespace Go.Vx
open Go Go.RowKit
theorem Zj0 {y : Int} (h0 : 0 ≤ y) (h1 : y ≤ 61) : shl .i64 1 y = some ((2 : Int) ^ y.toNat) := by
  have e : min y.toNat IntKind.i64.bits = y.toNat := by
    have : IntKind.i64.bits = 64 := rfl
    omega
  have hb := Zmw (n := y.toNat) (by omega)
  simp only [shl, if_neg (show ¬ y < 0 by omega), e, Int.one_mul]
  have := ZN (z := (2 : Int) ^ y.toNat) (by omega) (by omega)
  unfold i64 at this
  rw [this]
def ZdM (p : api_Param) : Bool := (((decide (p.Kind = 4)) && (!decide ((bitsN p).tmod 4 = 0))) || ((decide (p.Kind = 5)) && (!decide (bitsN p = 1)))) || (((decide (p.Kind = 2)) || (decide (p.Kind = 3))) && (decide (bitsN p = 1)))
def nmG (l : List Str) (k : Nat) (x : Str) : Option Int := if nmL x = true then (if x ∈ l.take k then some 5 else none) else some 8
def Zjx (p : api_Param) : Int := if ZdM p = true then 2 else if p.Kind = 6 then (if p.Names.length = 0 then 13 else if (decide (64 < p.Names.length) || decide ((2 : Int) ^ (bitsN p).toNat < p.Names.length)) = true then 3 else JQ id 0 (ZW (nmG p.Names) 0 p.Names))
  else if 0 < p.Names.length then 2 else 0
theorem ZmY {α : Type} {xs : List α} {k : Nat} (h : k ≤ xs.length) : slc xs 0 (k : Int) = some (xs.take k) := by
  unfold slc
  rw [if_pos ⟨by omega, by omega, by omega⟩]
  simp
theorem Zj2 {p : api_Param} (hl : p.Names.length ≤ 64) : loop (t1 (Qj p)) 0 = some (JQ Sum.inl (Sum.inr ()) (ZW (nmG p.Names) 0 p.Names)) := by
  refine Jh (xs := p.Names) _ _ _ (fun k x hx => ?_) (by simp [Qj])
  have hlt := Xm hx
  have hk : i64 ((k : Int) + 1) = (k : Int) + 1 := ZN (by omega) (by omega)
  simp only [Qj, hlt, decide_true, if_true, Z8 hx, Option.bind_some, Zhj, hk, nmG]
  cases h : nmL x
  · rfl
  · rw [ZmY (by omega), Option.bind_some, Zld (by rw [List.length_take]; omega)]
    by_cases hm : x ∈ p.Names.take k <;> simp [hm]
theorem Zjy {p : api_Param} (hl : p.Names.length ≤ 64) (hs : ∀ x ∈ p.Names, x.length ≤ 9223372036854775807) : loop (t1 (XP p)) 0 = some (JQ Sum.inl (Sum.inr ()) (ZW (nmG p.Names) 0 p.Names)) := by
  refine Jh (xs := p.Names) _ _ _ (fun k x hx => ?_) (by simp [XP])
  have hlt := Xm hx
  have hk : i64 ((k : Int) + 1) = (k : Int) + 1 := ZN (by omega) (by omega)
  simp only [XP, hlt, decide_true, if_true, Z8 hx, Option.bind_some, ZkT x (hs x (List.mem_of_getElem? hx)), hk, nmG]
  cases h : nmL x
  · rfl
  · have hL := ZfU (xs := p.Names.take k) (fun y => !decide (x = y)) (body := XO x (p.Names.take k)) 5 (by rw [List.length_take]; omega) (fun j y hy hj hlt2 => by
      simp only [XO, hlt2, if_true, Z8 hy, Option.bind_some, hj]
      by_cases hxy : x = y <;> simp [hxy]) (by simp [XO])
    rw [ZmY (by omega), Option.bind_some]
    simp only [Bool.not_true, if_false, Bool.false_eq_true]
    rw [hL]
    by_cases hm : x ∈ p.Names.take k
    · have : (p.Names.take k).all (fun y => !decide (x = y)) = false := by
        rw [List.all_eq_false]; exact ⟨x, hm, by simp⟩
      simp [hm, this]
    · have : (p.Names.take k).all (fun y => !decide (x = y)) = true := by
        rw [List.all_eq_true]; intro y hy
        have : x ≠ y := by rintro rfl; exact hm hy
        simp [this]
      simp [hm, this]
theorem Zi9 {p : api_Param} {β : Type} (f : Int → Option β) (g : Bool → Option β) (hfg : ∀ q, f q = g ((((decide (p.Kind = 4)) && (!decide (q = 0))) || ((decide (p.Kind = 5)) && (!decide (bitsN p = 1)))) || (((decide (p.Kind = 2)) || (decide (p.Kind = 3))) && (decide (bitsN p = 1))))) :
    (gd ((decide (p.Kind = 4)) == true) 0 (rem (bitsN p) 4)).bind f = g (ZdM p) := by
  by_cases h4 : p.Kind = 4
  · have : rem (bitsN p) 4 = some ((bitsN p).tmod 4) := by simp [rem]
    simp only [h4, decide_true, ZnK, this, Option.bind_some, hfg, ZdM]
  · simp only [h4, decide_false, hfg, ZdM, Bool.false_and, Bool.false_or]
    show (some (0 : Int)).bind f = _
    rw [Option.bind_some, hfg]
    simp only [h4, decide_false, Bool.false_and, Bool.false_or]
theorem Zil {p : api_Param} (hb : 0 ≤ bitsN p ∧ bitsN p ≤ 40) {o : Option (Int ⊕ Unit)} (ho : p.Names.length ≤ 64 → o = some (JQ Sum.inl (Sum.inr ()) (ZW (nmG p.Names) 0 p.Names))) (b : Bool) :
    (if b = true then
  some 2
  else
  if (!decide (p.Kind = 6)) = true then
  if (decide (0 < (p.Names.length : Int))) = true then
  some 2
  else
  some 0
  else
  if (decide ((p.Names.length : Int) = 0)) = true then
  some 13
  else
  (gd ((decide (64 < (p.Names.length : Int))) == false) 0 (shl .i64 1 (bitsN p))).bind fun q2 =>
  if ((decide (64 < (p.Names.length : Int))) || (decide (q2 < (p.Names.length : Int)))) = true then
  some 3
  else
  o.bind (Sum.elim (fun v => some v) (t0 (some 0)))) = some (if b = true then 2 else if p.Kind = 6 then (if p.Names.length = 0 then 13 else if (decide (64 < p.Names.length) || decide ((2 : Int) ^ (bitsN p).toNat < p.Names.length)) = true then 3 else JQ id 0 (ZW (nmG p.Names) 0 p.Names))
  else if 0 < p.Names.length then 2 else 0) := by
  cases b
  · simp only [Bool.false_eq_true, if_false]
    by_cases h6 : p.Kind = 6
    · by_cases h0 : p.Names.length = 0
      · have : ((p.Names.length : Nat) : Int) = 0 := by omega
        simp [h6, h0]
      · have h0' : ¬ ((p.Names.length : Nat) : Int) = 0 := by omega
        by_cases h64 : 64 < p.Names.length
        · have h64' : (64 : Int) < ((p.Names.length : Nat) : Int) := by omega
          have e : decide (64 < p.Names.length) = true := decide_eq_true h64
          simp only [h6, h0, e, h64', decide_true, decide_false, Bool.not_true, Bool.true_or, if_true, if_false, Bool.false_eq_true, h0']
          rfl
        · have h64' : ¬ (64 : Int) < ((p.Names.length : Nat) : Int) := by omega
          simp only [h6, h0, h64, h64', decide_true, decide_false, Bool.not_true, Bool.false_or, if_true, if_false, Bool.false_eq_true, h0', beq_self_eq_true, Zm7, Zj0 hb.1 (by omega : bitsN p ≤ 61), Option.bind_some]
          by_cases h7 : (2 : Int) ^ (bitsN p).toNat < ((p.Names.length : Nat) : Int)
          · simp [h7]
          · simp only [h7, decide_false, Bool.false_eq_true, if_false]
            rw [ho (by omega)]
            cases ZW (nmG p.Names) 0 p.Names <;> rfl
    · by_cases h0 : 0 < p.Names.length
      · have h0' : (0 : Int) < ((p.Names.length : Nat) : Int) := by omega
        rw [if_neg h6, if_pos h0, if_pos (by simpa using h6), if_pos (by simpa using h0')]
      · have h0' : ¬ (0 : Int) < ((p.Names.length : Nat) : Int) := by omega
        rw [if_neg h6, if_neg h0, if_pos (by simpa using h6), if_neg (by simpa using h0')]
  · rfl
theorem ZkP {p : api_Param} (h : lenOK p) : 0 ≤ bitsN p := by
  have := (Zmu h.2).1
  unfold bitsN; omega
theorem Zm8 {p : api_Param} (h : ZeS p = 0) : QL p = some (Zjx p) := by
  obtain ⟨hp, _, h40⟩ := Zdf h
  unfold QL
  rw [ZdG hp, Option.bind_some]
  rw [Zi9 (g := fun b => some (if b = true then 2 else if p.Kind = 6 then (if p.Names.length = 0 then 13 else if (decide (64 < p.Names.length) || decide ((2 : Int) ^ (bitsN p).toNat < p.Names.length)) = true then 3 else JQ id 0 (ZW (nmG p.Names) 0 p.Names)) else if 0 < p.Names.length then 2 else 0))]
  · rfl
  · intro q
    exact Zil ⟨ZkP hp, h40⟩ Zj2 _
theorem Znt {p : api_Param} (h : ZeS p = 0) (hs : ∀ x ∈ p.Names, x.length ≤ 9223372036854775807) : J8 p = some (Zjx p) := by
  obtain ⟨hp, _, h40⟩ := Zdf h
  unfold J8
  rw [ZfD, ZdG hp, Option.bind_some]
  rw [Zi9 (g := fun b => some (if b = true then 2 else if p.Kind = 6 then (if p.Names.length = 0 then 13 else if (decide (64 < p.Names.length) || decide ((2 : Int) ^ (bitsN p).toNat < p.Names.length)) = true then 3 else JQ id 0 (ZW (nmG p.Names) 0 p.Names)) else if 0 < p.Names.length then 2 else 0))]
  · rfl
  · intro q
    exact Zil ⟨ZkP hp, h40⟩ (fun hl => Zjy hl hs) _
end Go.Vx

namespace Go.Vx
open Go Go.RowKit
theorem Znb {a b A B : Int} (h0 : 0 ≤ a) (h1 : a ≤ A) (h2 : 0 ≤ b) (h3 : b ≤ B) : 0 ≤ a * b ∧ a * b ≤ A * B :=
  ⟨Int.mul_nonneg h0 h2, Int.mul_le_mul h1 h3 h2 (by omega)⟩
def JH (p : api_Param) (f : Int) : Bool := p.Parts.all fun x => decide (f + x.Frame < 16)
def stL (p : api_Param) : Nat → Int → List Int
  | 0, _ => []
  | n + 1, f => if f < 16 then (if JH p f then f :: stL p n (f + p.Every) else stL p n (f + p.Every)) else []
theorem Zi4 (p : api_Param) : ∀ n f, (stL p n f).length ≤ n
  | 0, _ => Nat.le_refl _
  | n + 1, f => by
    have := Zi4 p n (f + p.Every)
    unfold stL
    split
    · split
      · simp only [List.length_cons]; omega
      · omega
    · simp
theorem Zg5 {p : api_Param} (h1 : 1 ≤ p.Every) : ∀ n f x, 0 ≤ f → x ∈ stL p n f → 0 ≤ x ∧ x < 16 ∧ JH p x = true
  | 0, _, _, _, hx => by cases hx
  | n + 1, f, x, h0, hx => by
    unfold stL at hx
    split at hx
    · split at hx
      · rcases List.mem_cons.1 hx with rfl | hx
        · exact ⟨h0, by assumption, by assumption⟩
        · exact Zg5 h1 n _ x (by omega) hx
      · exact Zg5 h1 n _ x (by omega) hx
    · cases hx
def Zaw (p : api_Param) (f j : Int) (x : api_Part) : api_Place := ⟨f + x.Frame, x.Word + j * p.Step, x.Low, x.Bits⟩
def ZhS (number : Int) (p : api_Param) (idx f : Int) (j : Nat) : api_Cell := ⟨number, idx, f, p.Parts.map (Zaw p f j)⟩
def Zdn (number : Int) (p : api_Param) (out : List api_Cell) (f : Int) : List api_Cell := out ++ (List.range p.Times.toNat).map fun j => ZhS number p ((out.length + j : Nat) : Int) f j
def JN (p : api_Param) : List Int := stL p 17 p.First
def cellsN (number : Int) (p : api_Param) : List api_Cell := (JN p).foldl (Zdn number p) []
structure PartsOK (p : api_Param) : Prop where
  len : lenOK p
  tim : timA p = true
  stp : ∀ x ∈ p.Parts, stepOK p x = true
theorem ZjY {p : api_Param} (h : PartsOK p) {f : Int} (hf : 0 ≤ f ∧ f < 16) : Zy p.Parts (fun z0 => QO z0 f) = some (!JH p f) := by
  have h8 := h.len.1
  have key : loop (t1 (Zx p.Parts (fun z0 => QO z0 f))) 0 = some (JQ Sum.inl (Sum.inr ()) (ZW (fun k (x : api_Part) => if f + x.Frame < 16 then none else some (k : Int)) 0 p.Parts)) := by
    refine Jh (xs := p.Parts) _ _ _ (fun k x hx => ?_) (by simp [Zx])
    have hlt := Xm hx
    have hk : i64 ((k : Int) + 1) = (k : Int) + 1 := ZN (by omega) (by omega)
    have hp := JY.1 (h.len.2 x (List.mem_of_getElem? hx))
    have hs : i64 (f + x.Frame) = f + x.Frame := ZN (by omega) (by omega)
    simp only [Zx, QO, hlt, decide_true, if_true, Z8 hx, Option.bind_some, hk, hs]
    by_cases h16 : f + x.Frame < 16
    · have : ¬ 16 ≤ f + x.Frame := by omega
      simp [h16, this]
    · have : 16 ≤ f + x.Frame := by omega
      simp [h16, this]
  have fnd : ∀ (k : Nat) (l : List api_Part), ((l.all fun x => decide (f + x.Frame < 16)) = true ∧ ZW (fun k (x : api_Part) => if f + x.Frame < 16 then none else some (k : Int)) k l = none) ∨ ((l.all fun x => decide (f + x.Frame < 16)) = false ∧ ∃ j : Nat, ZW (fun k (x : api_Part) => if f + x.Frame < 16 then none else some (k : Int)) k l = some (j : Int)) := by
    intro k l
    induction l generalizing k with
    | nil => left; exact ⟨rfl, rfl⟩
    | cons x l ih =>
      by_cases hx : f + x.Frame < 16
      · rcases ih (k + 1) with ⟨h1, h2⟩ | ⟨h1, j, h2⟩
        · left; exact ⟨by simp only [List.all_cons, hx, decide_true, Bool.true_and]; exact h1, by simp only [ZW, hx, if_true]; exact h2⟩
        · right; exact ⟨by simp only [List.all_cons, hx, decide_true, Bool.true_and]; exact h1, j, by simp only [ZW, hx, if_true]; exact h2⟩
      · right; exact ⟨by simp [hx], k, by simp [ZW, hx]⟩
  unfold Zy ZI
  rw [key]
  unfold JH
  rcases fnd 0 p.Parts with ⟨h1, h2⟩ | ⟨h1, j, h2⟩
  · rw [h2, h1]; rfl
  · rw [h2, h1]
    simp [JQ]
theorem Zet {p : api_Param} (h : PartsOK p) : ∀ (n : Nat) (out : List Int) (f : Int), 0 ≤ f → f ≤ 32 → out.length + n ≤ 100 → 16 - f < n → loop (t2 (Qd p)) (out, f) = some (out ++ stL p n f)
  | 0, out, f, h0, h1, h2, h3 => by
    have h16 : ¬ f < 16 := by omega
    rw [ZG]
    simp [Qd, h16, stL]
  | n + 1, out, f, h0, h1, h2, h3 => by
    obtain ⟨hE, _⟩ := Jt h.tim
    rw [ZG]
    by_cases h16 : f < 16
    · have e : i64 (f + p.Every) = f + p.Every := ZN (by omega) (by omega)
      simp only [ZbA, Qd, h16, decide_true, if_true, ZjY h ⟨h0, h16⟩, Option.bind_some, Bool.not_not, e]
      cases hi : JH p f
      · simp only [Bool.false_eq_true, if_false, Option.bind_some, t1]
        show loop (t2 (Qd p)) (out, f + p.Every) = _
        rw [Zet h n out _ (by omega) (by omega) (by omega) (by omega)]
        simp [stL, h16, hi]
      · simp only [if_true]
        rw [Zhp (by simp; omega)]
        simp only [Option.bind_some, t1]
        show loop (t2 (Qd p)) (out ++ [f], f + p.Every) = _
        rw [Zet h n _ _ (by omega) (by omega) (by simp; omega) (by omega)]
        simp [stL, h16, hi]
    · simp [Qd, h16, stL]
theorem Zje {p : api_Param} (h : PartsOK p) : Xk p = some (JN p) := by
  obtain ⟨hE, hF, _⟩ := Jt h.tim
  unfold Xk
  rw [Zet h 17 [] p.First (by omega) (by omega) (by simp) (by omega)]
  rfl
theorem ZjG {p : api_Param} (h : PartsOK p) {f : Int} (hf : 0 ≤ f ∧ f < 16) {j : Nat} (hj : (j : Int) < p.Times) : loop (t2 (Z5 p f j)) ([], 0) = some (p.Parts.map (Zaw p f j)) := by
  have h8 := h.len.1
  obtain ⟨_, _, hT, hS, _⟩ := Jt h.tim
  refine Zmi (Zaw p f j) (fun k x acc hx ha => ?_) (fun acc => by simp [Z5])
  have hlt := Xm hx
  have hk : i64 ((k : Int) + 1) = (k : Int) + 1 := ZN (by omega) (by omega)
  have hp := JY.1 (h.len.2 x (List.mem_of_getElem? hx))
  have hst := h.stp x (List.mem_of_getElem? hx)
  simp only [stepOK, Bool.and_eq_true, decide_eq_true_eq] at hst
  have hm := Znb (a := (j : Int)) (b := p.Step) (A := 57) (B := 60) (by omega) (by omega) hS hst.1
  simp only [Z5, hlt, decide_true, if_true, Z8 hx, Option.bind_some, Xt, hk]
  rw [ZN (z := f + x.Frame) (by omega) (by omega), ZN (z := (j : Int) * p.Step) (by omega) (by omega), ZN (z := x.Word + (j : Int) * p.Step) (by omega) (by omega), Zhp (by simp; omega)]
  rfl
theorem Zkq (p : api_Param) (f : Int) (j : Int) : Zb6 p f j = Z5 p f j := by
  funext l i
  simp only [Zb6, Z5, Xt, Option.bind_some]
theorem Zjr {number : Int} {p : api_Param} (h : PartsOK p) {f : Int} (hf : 0 ≤ f ∧ f < 16) {body : List api_Cell → Int → Option ((List api_Cell × Int) ⊕ List api_Cell)} (out : List api_Cell) (ho : out.length ≤ 100000)
    (hb : ∀ acc i, body acc i = if decide (i < p.Times) = true then
      ((loop (t2 (Z5 p f i)) ([], 0)) : Option (((List api_Place)))).bind (t1 fun (Places : List api_Place) =>
      (app acc ([(api_Cell.mk number (acc.length : Int) f Places)] : List api_Cell)).bind fun l2 =>
      some (.inl (l2, (i64 (i + 1)))))
      else some (.inr acc)) : loop (t2 body) (out, 0) = some (Zdn number p out f) := by
  obtain ⟨_, _, hT, _⟩ := Jt h.tim
  have hTn : (p.Times.toNat : Int) = p.Times := by omega
  have := ZcR (body := t2 body) (fun s => ∃ k : Nat, s.2 = k ∧ k ≤ p.Times.toNat ∧ s.1 = out ++ (List.range k).map fun j => ZhS number p ((out.length + j : Nat) : Int) f j) (fun s => p.Times.toNat - s.2.toNat) (fun _ => Zdn number p out f) (by
    rintro ⟨acc, i⟩ ⟨k, hi, hk, ha⟩
    simp only at hi ha
    subst hi
    simp only [ZbA, hb]
    rcases Nat.lt_or_ge k p.Times.toNat with hlt | hge
    · left
      have h1 : ((k : Nat) : Int) < p.Times := by omega
      have hlen : acc.length = out.length + k := by rw [ha]; simp
      simp only [h1, decide_true, if_true, ZjG h hf h1, Option.bind_some, t1]
      rw [Zhp (by simp; omega), ZN (by omega) (by omega)]
      refine ⟨_, rfl, ⟨k + 1, by push_cast; rfl, hlt, ?_⟩, by simp only; omega, trivial⟩
      simp only [List.range_succ, List.map_append, List.map_cons, List.map_nil]
      rw [← List.append_assoc, ← ha, hlen]
      rfl
    · have : k = p.Times.toNat := by omega
      subst this
      right
      rw [if_neg (by simp; omega), ha]
      rfl) (out, 0) ⟨0, rfl, Nat.zero_le _, by simp⟩
  exact this
theorem ZjJ {number : Int} {p : api_Param} (hT : p.Times ≤ 57) : ∀ (fs : List Int) (out : List api_Cell), (fs.foldl (Zdn number p) out).length ≤ out.length + 57 * fs.length
  | [], out => by simp
  | f :: fs, out => by
    have := ZjJ (number := number) hT fs (Zdn number p out f)
    have h2 : (Zdn number p out f).length ≤ out.length + 57 := by unfold Zdn; simp; omega
    simp only [List.foldl_cons, List.length_cons]
    omega
theorem ZiH {p : api_Param} (h : PartsOK p) (number : Int) : Qx number p = some (cellsN number p) := by
  obtain ⟨hE, hF, hT, _⟩ := Jt h.tim
  have hlen : (JN p).length ≤ 17 := Zi4 p 17 _
  unfold Qx
  rw [Zje h, Option.bind_some]
  have key : loop (t2 (Qs number p (JN p))) ([], 0) = some (cellsN number p) := by
    have := Zf5 (xs := JN p) (body := Qs number p (JN p)) (I := fun acc k => acc.length ≤ 57 * k) (F := fun acc k => ((JN p).drop k).foldl (Zdn number p) acc)
      (fun acc k f hI hx => by
        have hlt := Xm hx
        have hf := Zg5 (p := p) (by omega) 17 p.First f hF.1 (List.mem_of_getElem? hx)
        left
        refine ⟨Zdn number p acc f, ?_, ?_, by rw [ZP hx]; rfl⟩
        · simp only [Qs, hlt, decide_true, if_true, Z8 hx, Option.bind_some]
          rw [Zjr (number := number) (body := XS number p f) h ⟨hf.1, hf.2.1⟩ acc (by omega) (fun acc i => rfl), ZN (by omega) (by omega)]
          rfl
        · unfold Zdn; simp; omega)
      (fun acc hI => by simp [Qs]) (a0 := []) (by simp)
    exact this
  rw [key]
  rfl
theorem ZjM {p : api_Param} (h : PartsOK p) {f : Int} (hf : 0 ≤ f ∧ f < 16) : loop (t2 (JC p f)) (true, 0) = some (JH p f) := by
  have h8 := h.len.1
  have := Zf5 (xs := p.Parts) (body := JC p f) (I := fun _ _ => True) (F := fun b k => b && ((p.Parts.drop k).all fun x => decide (f + x.Frame < 16)))
    (fun b k x _ hx => by
      have hlt := Xm hx
      have hp := JY.1 (h.len.2 x (List.mem_of_getElem? hx))
      left
      refine ⟨b && decide (f + x.Frame < 16), ?_, trivial, by rw [ZP hx, List.all_cons, Bool.and_assoc]⟩
      simp only [JC, hlt, decide_true, if_true, Z8 hx, Option.bind_some]
      rw [ZN (z := f + x.Frame) (by omega) (by omega), ZN (by omega) (by omega)])
    (fun b _ => by simp [JC]) (a0 := true) trivial
  rw [this]
  simp [JH]
theorem ZeD {p : api_Param} (h : PartsOK p) (number : Int) : ∀ (n : Nat) (out : List api_Cell) (f : Int), 0 ≤ f → f ≤ 32 → out.length + 57 * n ≤ 10000 → 16 - f < n → loop (t2 (Xo p number)) (out, f) = some ((stL p n f).foldl (Zdn number p) out)
  | 0, out, f, h0, h1, h2, h3 => by
    have h16 : ¬ f < 16 := by omega
    rw [ZG]
    simp [Xo, h16, stL]
  | n + 1, out, f, h0, h1, h2, h3 => by
    obtain ⟨hE, _, hT, _⟩ := Jt h.tim
    rw [ZG]
    by_cases h16 : f < 16
    · have e : i64 (f + p.Every) = f + p.Every := ZN (by omega) (by omega)
      simp only [ZbA, Xo, h16, decide_true, if_true, ZjM h ⟨h0, h16⟩, Option.bind_some, t1, e]
      cases hi : JH p f
      · have hL : loop (t2 (JD p number f false)) (out, 0) = some out := by
          rw [ZG]; simp [JD]
        rw [hL]
        show loop (t2 (Xo p number)) (out, f + p.Every) = _
        rw [ZeD h number n out _ (by omega) (by omega) (by omega) (by omega)]
        simp [stL, h16, hi]
      · rw [Zjr (number := number) h ⟨h0, h16⟩ (body := JD p number f true) out (by omega) (fun acc i => by
          simp only [JD, Bool.and_true, Zkq])]
        show loop (t2 (Xo p number)) (Zdn number p out f, f + p.Every) = _
        have h2' : (Zdn number p out f).length ≤ out.length + 57 := by unfold Zdn; simp; omega
        rw [ZeD h number n _ _ (by omega) (by omega) (by omega) (by omega)]
        simp [stL, h16, hi]
    · simp [Xo, h16, stL]
theorem Zf3 {p : api_Param} (h : PartsOK p) (number : Int) : Jn p number = some (cellsN number p) := by
  obtain ⟨hE, hF, _⟩ := Jt h.tim
  unfold Jn
  rw [ZeD h number 17 [] p.First (by omega) (by omega) (by simp) (by omega)]
  rfl
end Go.Vx

namespace Go.Vx
open Go Go.RowKit

section
variable {K V : Type} {eq : K → K → Bool}
def mkeys (m : List (K × V)) : List K := m.map (·.1)
theorem Zgl (he : ∀ a b, eq a b = true ↔ a = b) {m : List (K × V)} {k : K} : (Zce eq m k).isSome = true ↔ k ∈ mkeys m := by
  unfold Zce mkeys
  rw [Option.isSome_map, List.find?_isSome]
  simp only [List.mem_map]
  constructor
  · rintro ⟨p, hp, h⟩; exact ⟨p, hp, ((he _ _).1 h).symm⟩
  · rintro ⟨p, hp, rfl⟩; exact ⟨p, hp, (he _ _).2 rfl⟩
theorem Zic (he : ∀ a b, eq a b = true ↔ a = b) {m : List (K × V)} {k : K} (h : k ∉ mkeys m) : Zce eq m k = none := by
  cases hm : Zce eq m k with
  | none => rfl
  | some v => exact absurd ((Zgl he).1 (by rw [hm]; rfl)) h
theorem ZjS (he : ∀ a b, eq a b = true ↔ a = b) {m : List (K × V)} {k : K} {v : V} (h : k ∉ mkeys m) : ZeO eq m k v = m ++ [(k, v)] := by
  unfold ZeO
  have : (m.findIdx? fun p => eq k p.1) = none := by
    rw [List.findIdx?_eq_none_iff]
    intro p hp
    cases hq : eq k p.1 with
    | false => rfl
    | true => exact absurd (List.mem_map.2 ⟨p, hp, ((he _ _).1 hq).symm⟩) h
  rw [this]
end
theorem ZiE {n : Nat} (a b : Vector Int n) : kqV a b = true ↔ a = b := by simp [kqV]
end Go.Vx

namespace Go.Vx
open Go Go.RowKit
theorem kqB_iff (a b : layout_bit) : kq_layout_bit a b = true ↔ a = b := by
  cases a; cases b; simp [kq_layout_bit]
instance : DecidableEq layout_bit := fun a b => decidable_of_iff (kq_layout_bit a b = true) (kqB_iff a b)
def JK (x : api_Place) : List layout_bit := (List.range x.Bits.toNat).map fun (i : Nat) => ⟨x.Frame, x.Word, x.Low + i⟩
def Q0 (l : List api_Place) : List layout_bit := l.flatMap JK
def okB : List layout_bit → List layout_bit → Bool
  | _, [] => true
  | K, b :: bs => if b ∈ K then false else okB (K ++ [b]) bs
theorem Zcx : ∀ (K a b : List layout_bit), okB K (a ++ b) = (okB K a && okB (K ++ a) b)
  | K, [], b => by simp [okB]
  | K, x :: a, b => by
    simp only [List.cons_append, okB]
    split
    · rfl
    · rw [Zcx (K ++ [x]) a b]; simp
def ZcS (x : api_Place) : Prop := 0 ≤ x.Low ∧ x.Low ≤ 10 ∧ 0 ≤ x.Bits ∧ x.Bits ≤ 11
theorem ZmB {x : api_Place} (h : ZcS x) : XU x = some (JK x) := by
  obtain ⟨h1, h2, h3, h4⟩ := h
  have hn : (x.Bits.toNat : Int) = x.Bits := by omega
  have := Zjv (body := QT x) x.Bits.toNat (fun i => (⟨x.Frame, x.Word, x.Low + i⟩ : layout_bit)) (fun k acc hk ha => by
    have h5 : ((k : Nat) : Int) < x.Bits := by omega
    simp only [QT, h5, decide_true, if_true]
    rw [ZN (by omega) (by omega), Zhp (by simp; omega), ZN (by omega) (by omega)]
    rfl) (fun acc => by simp [QT, hn])
  unfold XU
  rw [this]; rfl
theorem ZjI {K V : Type} {o : List (K × V)} {b : K} {v : V} : mkeys (o ++ [(b, v)]) = mkeys o ++ [b] := by simp [mkeys]
theorem Znk {y : List layout_bit} (owner : Int) (hy : y.length ≤ 1000) (o : List (layout_bit × Int)) : ∃ q, loop (t2 (QG owner y)) (o, 0) = some (cond (okB (mkeys o) y) (.inr (o ++ y.map fun b => (b, owner))) (.inl (false, q))) := by
  have key : ∀ (n k : Nat) (o : List (layout_bit × Int)), k + n = y.length → ∃ q, loop (t2 (QG owner y)) (o, (k : Int)) = some (cond (okB (mkeys o) (y.drop k)) (.inr (o ++ (y.drop k).map fun b => (b, owner))) (.inl (false, q))) := by
    intro n
    induction n with
    | zero =>
      intro k o hk
      have : k = y.length := by omega
      subst this
      refine ⟨[], ?_⟩
      rw [ZG]
      simp [QG, okB]
    | succ n ih =>
      intro k o hk
      obtain ⟨x, hx⟩ := Qm (xs := y) (k := k) (by omega)
      have hlt := Xm hx
      rw [ZP hx, ZG]
      simp only [ZbA, QG, hlt, decide_true, if_true, Z8 hx, Option.bind_some, okB]
      by_cases hm : x ∈ mkeys o
      · refine ⟨o, ?_⟩
        rw [if_pos ((Zgl kqB_iff).2 hm), if_pos hm]
        rfl
      · have hg : (Zce kq_layout_bit o x).isSome = false := by rw [Zic kqB_iff hm]; rfl
        rw [hg, ZjS kqB_iff hm, if_neg hm, ZN (by omega) (by omega)]
        obtain ⟨q, h2⟩ := ih (k + 1) (o ++ [(x, owner)]) (by omega)
        refine ⟨q, ?_⟩
        simp only [Bool.false_eq_true, if_false]
        have e : ((k : Nat) : Int) + 1 = ((k + 1 : Nat) : Int) := by push_cast; rfl
        rw [e]
        rw [ZjI] at h2
        show loop (t2 (QG owner y)) (o ++ [(x, owner)], ((k + 1 : Nat) : Int)) = _
        rw [h2]
        simp
  exact key y.length 0 o (by omega)
theorem Zk2 {x : api_Place} (h : ZcS x) : (JK x).length ≤ 11 := by
  obtain ⟨_, _, h3, h4⟩ := h
  simp [JK]; omega
theorem Zmq {l : List api_Place} (owner : Int) (hl : l.length ≤ 1000000) (hp : ∀ x ∈ l, ZcS x) (o : List (layout_bit × Int)) :
    ∃ q, Jc o owner l = some (okB (mkeys o) (Q0 l), q) ∧ (okB (mkeys o) (Q0 l) = true → q = o ++ (Q0 l).map fun b => (b, owner)) := by
  have key : ∀ (n k : Nat) (o : List (layout_bit × Int)), k + n = l.length → ∃ q, loop (t2 (QH owner l)) (o, (k : Int)) = some (cond (okB (mkeys o) (Q0 (l.drop k))) (.inr (o ++ (Q0 (l.drop k)).map fun b => (b, owner))) (.inl (false, q))) := by
    intro n
    induction n with
    | zero =>
      intro k o hk
      have : k = l.length := by omega
      subst this
      refine ⟨[], ?_⟩
      rw [ZG]
      simp [QH, okB, Q0]
    | succ n ih =>
      intro k o hk
      obtain ⟨x, hx⟩ := Qm (xs := l) (k := k) (by omega)
      have hlt := Xm hx
      have hpx := hp x (List.mem_of_getElem? hx)
      obtain ⟨q, h2⟩ := Znk owner (y := JK x) (by have := Zk2 hpx; omega) o
      have e : Q0 (l.drop k) = JK x ++ Q0 (l.drop (k + 1)) := by rw [ZP hx]; simp [Q0]
      rw [e, Zcx, ZG]
      simp only [ZbA, QH, hlt, decide_true, if_true, Z8 hx, Option.bind_some, ZmB hpx, h2]
      by_cases hm : okB (mkeys o) (JK x) = true
      · obtain ⟨q', h3⟩ := ih (k + 1) (o ++ (JK x).map fun b => (b, owner)) (by omega)
        refine ⟨q', ?_⟩
        rw [hm, Bool.true_and, ZN (by omega) (by omega)]
        have e2 : ((k : Nat) : Int) + 1 = ((k + 1 : Nat) : Int) := by push_cast; rfl
        rw [e2]
        show loop (t2 (QH owner l)) (o ++ (JK x).map (fun b => (b, owner)), ((k + 1 : Nat) : Int)) = _
        rw [h3]
        have e3 : mkeys (o ++ (JK x).map fun b => (b, owner)) = mkeys o ++ JK x := by simp [mkeys, Function.comp_def]
        rw [e3]
        simp
      · refine ⟨q, ?_⟩
        have hm' : okB (mkeys o) (JK x) = false := by simpa using hm
        rw [hm']
        rfl
  obtain ⟨q, h⟩ := key l.length 0 o (by omega)
  unfold Jc
  have h' : loop (t2 (QH owner l)) (o, 0) = _ := h
  rw [h']
  rw [List.drop_zero]
  by_cases hm : okB (mkeys o) (Q0 l) = true
  · rw [hm]; exact ⟨_, rfl, fun _ => rfl⟩
  · have hm' : okB (mkeys o) (Q0 l) = false := by simpa using hm
    rw [hm']
    refine ⟨q, rfl, ?_⟩
    intro h; cases h
def trB (b : layout_bit) : Vector Int 3 := #v[b.frame, b.word, b.bit]
theorem Zk1 {a b : layout_bit} (h : trB a = trB b) : a = b := by
  cases a; cases b
  simp only [trB] at h
  have h0 := congrArg (fun v : Vector Int 3 => v[0]) h
  have h1 := congrArg (fun v : Vector Int 3 => v[1]) h
  have h2 := congrArg (fun v : Vector Int 3 => v[2]) h
  simp at h0 h1 h2
  subst h0 h1 h2
  rfl
abbrev RT := List (Vector Int 3 × Bool)
structure RK (o : RT) (K : List layout_bit) : Prop where
  keys : mkeys o = K.map trB
  vals : ∀ p ∈ o, p.2 = true
theorem RK.get {o : RT} {K : List layout_bit} (h : RK o K) (b : layout_bit) : (Zce kqV o (trB b)).getD false = decide (b ∈ K) := by
  by_cases hb : b ∈ K
  · have hm : trB b ∈ mkeys o := by rw [h.keys]; exact List.mem_map.2 ⟨b, hb, rfl⟩
    obtain ⟨v, hv⟩ := Option.isSome_iff_exists.1 ((Zgl ZiE).2 hm)
    have : v = true := by
      unfold Zce at hv
      obtain ⟨p, hp, rfl⟩ := Option.map_eq_some_iff.1 hv
      exact h.vals p (List.mem_of_find?_eq_some hp)
    rw [hv, this]; simp [hb]
  · have hm : trB b ∉ mkeys o := by
      rw [h.keys]
      intro hm
      obtain ⟨c, hc, he⟩ := List.mem_map.1 hm
      rw [Zk1 he] at hc
      exact hb hc
    rw [Zic ZiE hm]; simp [hb]
theorem RK.put {o : RT} {K : List layout_bit} (h : RK o K) {b : layout_bit} (hb : b ∉ K) : RK (ZeO kqV o (trB b) true) (K ++ [b]) := by
  have hm : trB b ∉ mkeys o := by
    rw [h.keys]
    intro hm
    obtain ⟨c, hc, he⟩ := List.mem_map.1 hm
    rw [Zk1 he] at hc
    exact hb hc
  rw [ZjS ZiE hm]
  refine ⟨by rw [ZjI, h.keys]; simp, fun p hp => ?_⟩
  rcases List.mem_append.1 hp with hp | hp
  · exact h.vals p hp
  · simp at hp; rw [hp]
theorem ZmA {x : api_Place} (hx : ZcS x) (o : RT) (ok : Bool) :
    ∃ o' ok', loop (t3 (QY x)) (o, ok, x.Low) = some (o', ok') ∧ (ok = false → ok' = false) ∧ ∀ K, ok = true → RK o K → ok' = okB K (JK x) ∧ (ok' = true → RK o' (K ++ JK x)) := by
  obtain ⟨h1, h2, h3, h4⟩ := hx
  have hs : i64 (x.Low + x.Bits) = x.Low + x.Bits := ZN (by omega) (by omega)
  have key : ∀ (n k : Nat) (o : RT) (ok : Bool), k + n = x.Bits.toNat → ∃ o' ok', loop (t3 (QY x)) (o, ok, x.Low + k) = some (o', ok') ∧ (ok = false → ok' = false) ∧
      ∀ K, ok = true → RK o K → ok' = okB K ((JK x).drop k) ∧ (ok' = true → RK o' (K ++ (JK x).drop k)) := by
    intro n
    induction n with
    | zero =>
      intro k o ok hk
      have hge : ¬ (x.Low + (k : Int) < x.Low + x.Bits) := by omega
      refine ⟨o, ok, ?_, fun h => h, fun K h hK => ?_⟩
      · rw [ZG]
        simp only [Ze0, QY, hs, hge, decide_false, Bool.false_eq_true, if_false]
        rfl
      · have : (JK x).drop k = [] := List.drop_eq_nil_of_le (by simp [JK]; omega)
        rw [this]
        exact ⟨by simp [okB, h], fun _ => by simpa using hK⟩
    | succ n ih =>
      intro k o ok hk
      have hlt : (x.Low + (k : Int) < x.Low + x.Bits) := by omega
      have hb : (JK x)[k]? = some ⟨x.Frame, x.Word, x.Low + k⟩ := by
        simp only [JK, List.getElem?_map]
        rw [List.getElem?_range (by omega)]
        rfl
      have he : (#v[x.Frame, x.Word, x.Low + (k : Int)] : Vector Int 3) = trB ⟨x.Frame, x.Word, x.Low + k⟩ := rfl
      have e1 : x.Low + ((k : Nat) : Int) + 1 = x.Low + ((k + 1 : Nat) : Int) := by push_cast; omega
      have hi : i64 (x.Low + (k : Int) + 1) = x.Low + ((k + 1 : Nat) : Int) := by rw [ZN (by omega) (by omega), e1]
      rw [ZG]
      simp only [Ze0, QY, hs, hlt, decide_true, if_true, hi, he]
      cases ok with
      | false =>
        obtain ⟨o', ok', g1, g2, _⟩ := ih (k + 1) (ZeO kqV o (trB ⟨x.Frame, x.Word, x.Low + k⟩) true) false (by omega)
        exact ⟨o', ok', g1, fun _ => g2 rfl, fun K h => by cases h⟩
      | true =>
        simp only [ZnK, Option.bind_some, Bool.true_and]
        obtain ⟨o', ok', g1, g2, g3⟩ := ih (k + 1) (ZeO kqV o (trB ⟨x.Frame, x.Word, x.Low + k⟩) true) (!(Zce kqV o (trB ⟨x.Frame, x.Word, x.Low + k⟩)).getD false) (by omega)
        refine ⟨o', ok', g1, (fun h => by cases h), fun K _ hK => ?_⟩
        rw [ZP hb]
        simp only [okB]
        rw [hK.get] at g2 g3
        by_cases hm : (⟨x.Frame, x.Word, x.Low + k⟩ : layout_bit) ∈ K
        · rw [if_pos hm]
          have hf := g2 (by simp [hm])
          exact ⟨hf, fun h => by rw [hf] at h; cases h⟩
        · rw [if_neg hm]
          obtain ⟨a1, a2⟩ := g3 (K ++ [⟨x.Frame, x.Word, x.Low + k⟩]) (by simp [hm]) (hK.put hm)
          refine ⟨a1, fun h => ?_⟩
          have := a2 h
          simpa using this
  have := key x.Bits.toNat 0 o ok (by omega)
  simpa using this
theorem ZmU {l : List api_Place} (hl : l.length ≤ 1000000) (hp : ∀ x ∈ l, ZcS x) (o : RT) :
    ∃ o' ok', Ju o l = some (ok', o') ∧ ∀ K, RK o K → ok' = okB K (Q0 l) ∧ (ok' = true → RK o' (K ++ Q0 l)) := by
  have key : ∀ (n k : Nat) (o : RT) (ok : Bool), k + n = l.length → ∃ o' ok', loop (t3 (QX l)) (o, ok, (k : Int)) = some (o', ok') ∧ (ok = false → ok' = false) ∧
      ∀ K, ok = true → RK o K → ok' = okB K (Q0 (l.drop k)) ∧ (ok' = true → RK o' (K ++ Q0 (l.drop k))) := by
    intro n
    induction n with
    | zero =>
      intro k o ok hk
      have : k = l.length := by omega
      subst this
      refine ⟨o, ok, ?_, fun h => h, fun K h hK => ?_⟩
      · rw [ZG]
        simp [QX]
      · simp [Q0, okB, h, hK]
    | succ n ih =>
      intro k o ok hk
      obtain ⟨x, hx⟩ := Qm (xs := l) (k := k) (by omega)
      have hlt := Xm hx
      have hpx := hp x (List.mem_of_getElem? hx)
      obtain ⟨o1, ok1, h1, h2, h3⟩ := ZmA hpx o ok
      obtain ⟨o2, ok2, g1, g2, g3⟩ := ih (k + 1) o1 ok1 (by omega)
      have e : Q0 (l.drop k) = JK x ++ Q0 (l.drop (k + 1)) := by rw [ZP hx]; simp [Q0]
      have e2 : ((k : Nat) : Int) + 1 = ((k + 1 : Nat) : Int) := by push_cast; rfl
      refine ⟨o2, ok2, ?_, fun h => g2 (h2 h), fun K h hK => ?_⟩
      · rw [ZG]
        simp only [Ze0, QX, hlt, decide_true, if_true, Z8 hx, Option.bind_some, h1, ZbA]
        rw [ZN (by omega) (by omega), e2]
        exact g1
      · rw [e, Zcx]
        obtain ⟨a1, a2⟩ := h3 K h hK
        cases hok : ok1 with
        | false =>
          rw [← a1, hok, Bool.false_and]
          have := g2 hok
          exact ⟨this, fun h => by rw [this] at h; cases h⟩
        | true =>
          rw [← a1, hok, Bool.true_and]
          obtain ⟨b1, b2⟩ := g3 _ hok (a2 hok)
          exact ⟨b1, fun h => by have := b2 h; simpa using this⟩
  obtain ⟨o', ok', h1, _, h3⟩ := key l.length 0 o true (by omega)
  unfold Ju
  have h1' : loop (t3 (QX l)) (o, true, 0) = _ := h1
  rw [h1']
  exact ⟨o', ok', rfl, fun K hK => by simpa using h3 K rfl hK⟩
def bitsC (l : List api_Cell) : List layout_bit := l.flatMap fun c => Q0 c.Places
def Zg8 (l : List api_Cell) : Prop := l.length ≤ 1000000 ∧ ∀ c ∈ l, c.Places.length ≤ 1000000 ∧ ∀ x ∈ c.Places, ZcS x
theorem Zhf {l : List api_Cell} (hl : Zg8 l) (o : RT) :
    ∃ o' ok', QW o l = some (ok', o') ∧ ∀ K, RK o K → ok' = okB K (bitsC l) ∧ (ok' = true → RK o' (K ++ bitsC l)) := by
  have hl0 := hl.1
  have key : ∀ (n k : Nat) (o : RT) (ok : Bool), k + n = l.length → ∃ o' ok', loop (t3 (Qu l)) (o, ok, (k : Int)) = some (o', ok') ∧ (ok = false → ok' = false) ∧
      ∀ K, ok = true → RK o K → ok' = okB K (bitsC (l.drop k)) ∧ (ok' = true → RK o' (K ++ bitsC (l.drop k))) := by
    intro n
    induction n with
    | zero =>
      intro k o ok hk
      have : k = l.length := by omega
      subst this
      refine ⟨o, ok, ?_, fun h => h, fun K h hK => ?_⟩
      · rw [ZG]
        simp [Qu]
      · simp [bitsC, okB, h, hK]
    | succ n ih =>
      intro k o ok hk
      obtain ⟨c, hc⟩ := Qm (xs := l) (k := k) (by omega)
      have hlt := Xm hc
      obtain ⟨hp1, hp2⟩ := hl.2 c (List.mem_of_getElem? hc)
      obtain ⟨o1, ok1, h1, h3⟩ := ZmU hp1 hp2 o
      obtain ⟨o2, ok2, g1, g2, g3⟩ := ih (k + 1) o1 (if ok1 = true then ok else false) (by omega)
      have e : bitsC (l.drop k) = Q0 c.Places ++ bitsC (l.drop (k + 1)) := by rw [ZP hc]; simp [bitsC]
      have e2 : ((k : Nat) : Int) + 1 = ((k + 1 : Nat) : Int) := by push_cast; rfl
      refine ⟨o2, ok2, ?_, fun h => g2 (by simp [h]), fun K h hK => ?_⟩
      · rw [ZG]
        simp only [Ze0, Qu, hlt, decide_true, if_true, Z8 hc, Option.bind_some, h1]
        rw [ZN (by omega) (by omega), e2]
        cases ok1 <;> exact g1
      · rw [e, Zcx]
        obtain ⟨a1, a2⟩ := h3 K hK
        cases hok : ok1 with
        | false =>
          rw [← a1, hok, Bool.false_and]
          have := g2 (by simp [hok])
          exact ⟨this, fun h => by rw [this] at h; cases h⟩
        | true =>
          rw [← a1, hok, Bool.true_and]
          obtain ⟨b1, b2⟩ := g3 _ (by simp [hok, h]) (a2 hok)
          exact ⟨b1, fun h => by have := b2 h; simpa using this⟩
  obtain ⟨o', ok', h1, _, h3⟩ := key l.length 0 o true (by omega)
  unfold QW
  have h1' : loop (t3 (Qu l)) (o, true, 0) = _ := h1
  rw [h1']
  exact ⟨o', ok', rfl, fun K hK => by simpa using h3 K rfl hK⟩
end Go.Vx
