/- A text of the proof: a verified executor of the program form, or the contracts of the functions that the law reaches. -/
import Derived.Test.YthdiljjohpamnaaGreatDoorRRShT
import Derived.Test.YthdiljjohpamnaaGreatDoorRRShLib
import Derived.Test.YthdiljjohpamnaaGreatDoorRRVH
import Derived.Test.YthdiljjohpamnaaGreatDoorRRVP
set_option linter.all false
namespace Go.Vx
open Go Go.RowKit
theorem ZmN {σ ρ : Type} {body : σ → Option (σ ⊕ ρ)} (I : σ → Prop) (Q : ρ → Prop) (h1 : ∀ s s', I s → body s = some (.inl s') → I s') (h2 : ∀ s r, I s → body s = some (.inr r) → Q r) {s : σ} {r : ρ} (hs : I s) (h : loop body s = some r) : Q r := by
  obtain ⟨n, hn⟩ := Zff h
  induction n generalizing s with
  | zero => cases hn
  | succ n ih =>
    simp only [ZdX] at hn
    cases hb : body s with
    | none => rw [hb] at hn; cases hn
    | some o =>
      rw [hb] at hn
      cases o with
      | inl s' =>
        have hn' : ZdX body n s' = some r := hn
        exact ih (h1 s s' hs hb) (Zir hn') hn'
      | inr r' => cases hn; exact h2 s _ hs hb
theorem X5 {xs r : List api_Piece} (h : Z5 xs = some r) : r.length = xs.length := by
  unfold Z5 at h
  refine ZmN (body := t3 ZV) (fun s => s.1.length = xs.length) (fun r => r.length = xs.length) ?_ ?_ rfl h
  · rintro ⟨o, i, j⟩ s' hs hb
    simp only [Znc] at hb hs
    unfold ZV at hb
    split at hb
    · cases h1 : idx o j <;> rw [h1] at hb <;> try cases hb
      cases h2 : idx o i <;> simp only [Option.bind_some] at hb <;> rw [h2] at hb <;> try cases hb
      simp only [Option.bind_some] at hb
      rename_i x y
      cases h3 : idx (o.set i.toNat x) j <;> rw [h3] at hb <;> try cases hb
      simpa using hs
    · cases hb
  · rintro ⟨o, i, j⟩ r' hs hb
    simp only [Znc] at hb hs
    unfold ZV at hb
    split at hb
    · cases h1 : idx o j <;> rw [h1] at hb <;> try cases hb
      cases h2 : idx o i <;> simp only [Option.bind_some] at hb <;> rw [h2] at hb <;> try cases hb
      simp only [Option.bind_some] at hb
      rename_i x y
      cases h3 : idx (o.set i.toNat x) j <;> rw [h3] at hb <;> cases hb
    · cases hb; exact hs
end Go.Vx

namespace Go.Vx
open Go Go.RowKit
theorem Zpx {z : Int} (h1 : -9223372036854775808 ≤ z) (h2 : z ≤ 9223372036854775807) : IntKind.i64.wrap z = z := w64 h1 h2
theorem Zrj {z : Int} (h1 : 0 ≤ z) (h2 : z < 18446744073709551616) : IntKind.u64.wrap z = z := Zsf h1 h2
@[simp] theorem Zdm {α : Type} {d : α} {o : Option α} : gd true d o = o := rfl
@[simp] theorem Zqc {α : Type} {d : α} {o : Option α} : gd false d o = some d := rfl
@[simp] theorem Zcu {α : Type} {d : α} {o : Option α} : gd (true == true) d o = o := rfl
theorem Z2 {α : Type} {xs : List α} {k : Nat} {x : α} (h : xs[k]? = some x) : idx xs (k : Int) = some x := by simp [idx, h]
theorem Zr0 {α : Type} {xs : List α} {k : Nat} {x : α} (h : xs[k]? = some x) : (k : Int) < (xs.length : Int) := by
  have := (List.getElem?_eq_some_iff.1 h).1; omega
theorem ZT {α : Type} {xs : List α} {k : Nat} (h : k < xs.length) : ∃ x, xs[k]? = some x := ⟨xs[k], List.getElem?_eq_getElem h⟩
theorem Zle {α : Type} {xs : List α} {k : Nat} {x : α} (h : xs[k]? = some x) : xs.drop k = x :: xs.drop (k + 1) := by
  obtain ⟨hk, rfl⟩ := List.getElem?_eq_some_iff.1 h
  exact List.drop_eq_getElem_cons hk
theorem XP {α : Type} {xs ys : List α} (h : xs.length + ys.length ≤ 4294967296) : app xs ys = some (xs ++ ys) := by simp [app, h]

section loops
variable {σ ρ : Type}
theorem Zdv {body : σ → Option (σ ⊕ ρ)} (I : σ → Prop) (μ : σ → Nat) (F : σ → ρ) (step : ∀ s, I s → (∃ s', body s = some (.inl s') ∧ I s' ∧ μ s' < μ s ∧ F s = F s') ∨ body s = some (.inr (F s))) :
    ∀ s, I s → loop body s = some (F s) := by
  intro s hs
  obtain ⟨r, h1, h2⟩ := Zeq (body := body) (fun s' => I s' ∧ F s = F s') μ (fun r => r = F s) (fun s' ⟨h1, h2⟩ => by
    rcases step s' h1 with ⟨s2, e1, e2, e3, e4⟩ | e
    · exact .inl ⟨s2, e1, ⟨e2, h2.trans e4⟩, e3⟩
    · exact .inr ⟨_, e, h2.symm⟩) s ⟨hs, rfl⟩
  rw [h1, h2]
variable {α : Type} {xs : List α}
theorem Zl8 {body : Int → Option (Int ⊕ ρ)} (F : Nat → ρ)
    (hstep : ∀ (k : Nat) x, xs[k]? = some x → (body k = some (.inl ((k : Int) + 1)) ∧ F k = F (k + 1)) ∨ body k = some (.inr (F k)))
    (hend : body xs.length = some (.inr (F xs.length))) : loop (t1 body) 0 = some (F 0) := by
  refine Zdv (body := t1 body) (fun i => ∃ k : Nat, i = k ∧ k ≤ xs.length) (fun i => xs.length - i.toNat) (fun i => F i.toNat) ?_ 0 ⟨0, rfl, Nat.zero_le _⟩
  rintro i ⟨k, rfl, hk⟩
  simp only [Int.toNat_natCast, QN]
  rcases Nat.lt_or_ge k xs.length with h | h
  · obtain ⟨x, hx⟩ := ZT h
    rcases hstep k x hx with ⟨h1, h2⟩ | h1
    · exact .inl ⟨_, h1, ⟨k + 1, by push_cast; rfl, h⟩, by omega, by rw [h2]; rfl⟩
    · exact .inr h1
  · have : k = xs.length := by omega
    subst this
    exact .inr hend
end loops
end Go.Vx

namespace Go.Vx
open Go Go.RowKit
section err
variable {α ε : Type}
def ZhL {ρ : Type} (A : ε → ρ) (Z : ρ) : Option ε → ρ
  | some e => A e
  | none => Z
@[simp] theorem Zq3 {ρ : Type} (A : ε → ρ) (Z : ρ) (e : ε) : ZhL A Z (some e) = A e := rfl
@[simp] theorem ZqF {ρ : Type} (A : ε → ρ) (Z : ρ) : ZhL A Z none = Z := rfl
def Zeh (g : α → Option ε) : List α → Option ε
  | [] => none
  | x :: tl => match g x with | some e => some e | none => Zeh g tl
theorem ZkY {ρ : Type} {xs : List α} (g : α → Option ε) (A : ε → ρ) (Z : ρ) {body : Int → Option (Int ⊕ ρ)}
    (h : ∀ (k : Nat) x, xs[k]? = some x → body k = match g x with | some e => some (.inr (A e)) | none => some (.inl ((k : Int) + 1)))
    (hend : body xs.length = some (.inr Z)) : loop (t1 body) 0 = some (ZhL A Z (Zeh g xs)) := by
  refine Zl8 (xs := xs) (fun k => ZhL A Z (Zeh g (xs.drop k))) (fun k x hx => ?_) ?_
  · rw [h k x hx, Zle hx]
    simp only [Zeh]
    cases hg : g x with
    | some e => right; rfl
    | none => left; exact ⟨rfl, rfl⟩
  · rw [hend]; simp [Zeh]
end err
theorem Zl9 {α : Type} {xs : List α} {body : List α → Int → Option ((List α × Int) ⊕ (List α))} (g : α → α)
    (hstep : ∀ (k : Nat) x acc, xs[k]? = some x → acc.length = xs.length → acc[k]? = some x → ∃ acc', body acc k = some (.inl (acc', (k : Int) + 1)) ∧ acc' = acc.set k (g x))
    (hend : ∀ acc, body acc xs.length = some (.inr acc)) : loop (t2 body) (xs, 0) = some (xs.map g) := by
  refine (Zdv (body := t2 body) (fun p => ∃ k : Nat, p.2 = k ∧ k ≤ xs.length ∧ p.1 = (xs.take k).map g ++ xs.drop k) (fun p => xs.length - p.2.toNat) (fun _ => xs.map g) ?_ (xs, 0) ⟨0, rfl, Nat.zero_le _, by simp⟩)
  rintro ⟨acc, i⟩ ⟨k, hi, hk, ha⟩
  simp only at hi ha
  subst hi
  simp only [Zc8]
  rcases Nat.lt_or_ge k xs.length with h | h
  · obtain ⟨x, hx⟩ := ZT h
    left
    have hlen : acc.length = xs.length := by rw [ha]; simp; omega
    have hm : (xs.take k).length = k := by simp; omega
    have hax : acc[k]? = some x := by
      rw [ha, List.getElem?_append_right (by simp; omega)]
      simp [hm, hx, show min k xs.length = k by omega]
    obtain ⟨acc', h1, h2⟩ := hstep k x acc hx hlen hax
    refine ⟨_, h1, ⟨k + 1, by push_cast; rfl, h, ?_⟩, by simp only; omega, trivial⟩
    simp only
    rw [h2, ha, Zle hx]
    have e1 : xs.take (k + 1) = xs.take k ++ [x] := by
      rw [List.take_succ, hx]; rfl
    rw [e1, List.map_append, List.set_append, if_neg (by simp; omega)]
    have : k - ((xs.take k).map g).length = 0 := by simp; omega
    rw [this]
    simp
  · have : k = xs.length := by omega
    subst this
    right
    rw [hend, ha]; simp
end Go.Vx

namespace Go.Vx
open Go Go.RowKit
theorem Zo9 {z : Int} (h1 : -9223372036854775808 ≤ z) (h2 : z ≤ 9223372036854775807) : i64 z = z := Zpx h1 h2
theorem ZqS {n : Nat} (h : n ≤ 61) : (1 : Int) ≤ 2 ^ n ∧ (2 : Int) ^ n ≤ 2305843009213693952 := by
  have e : ((2 ^ n : Nat) : Int) = (2 : Int) ^ n := by push_cast; rfl
  have h1 : 1 ≤ 2 ^ n := Nat.one_le_two_pow
  have h2 : 2 ^ n ≤ 2 ^ 61 := Nat.pow_le_pow_right (by decide) h
  rw [show (2 : Nat) ^ 61 = 2305843009213693952 by decide] at h2
  omega
theorem Zgu {v : Int} {n : Nat} (hn : n ≤ 61) : Jq .i64 v ((2 : Int) ^ n - 1) = v % (2 : Int) ^ n := by
  have hb := ZqS hn
  have e : ((2 : Int) ^ n - 1) = ((2 ^ n - 1 : Nat) : Int) := by
    have h1 : 1 ≤ 2 ^ n := Nat.one_le_two_pow
    have h2 : ((2 ^ n : Nat) : Int) = (2 : Int) ^ n := by push_cast; rfl
    omega
  have h2 : 2 ^ n ≤ 2 ^ 61 := Nat.pow_le_pow_right (by decide) hn
  have h2p : 0 < 2 ^ n := Nat.two_pow_pos n
  have e2 : (BitVec.ofInt 64 ((2 : Int) ^ n - 1)).toNat = 2 ^ n - 1 := by
    rw [e, BitVec.ofInt_natCast, BitVec.toNat_ofNat]
    exact Nat.mod_eq_of_lt (by have : (2 : Nat) ^ 61 < 2 ^ 64 := by decide
                               omega)
  have e3 : ((BitVec.ofInt 64 v).toNat : Int) = v % (2 : Int) ^ 64 := by
    rw [BitVec.toNat_ofInt]
    have : (0 : Int) ≤ v % ((2 ^ 64 : Nat) : Int) := Int.emod_nonneg _ (by decide)
    rw [Int.toNat_of_nonneg this]; rfl
  have e4 : ((BitVec.ofInt 64 v &&& BitVec.ofInt 64 ((2 : Int) ^ n - 1)).toNat : Int) = v % (2 : Int) ^ n := by
    rw [BitVec.toNat_and, e2, Nat.and_two_pow_sub_one_eq_mod]
    push_cast
    rw [e3]
    have : ((2 : Int) ^ n) ∣ (2 : Int) ^ 64 := ⟨(2 : Int) ^ (64 - n), by rw [← Int.pow_add]; congr 1; omega⟩
    exact Int.emod_emod_of_dvd v this
  have hp : (0 : Int) < (2 : Int) ^ n := by omega
  have b1 := Int.emod_nonneg v (show (2 : Int) ^ n ≠ 0 by omega)
  have b2 := Int.emod_lt_of_pos v hp
  unfold Jq
  have : IntKind.i64.bits = 64 := rfl
  rw [this, e4]
  exact Zo9 (by omega) (by omega)
theorem Zr7 {a b n : Nat} (ha : a < 2 ^ n) (hb : a + 2 ^ n * b < 2 ^ 62) : bor .i64 (a : Int) ((2 ^ n * b : Nat) : Int) = ((a + 2 ^ n * b : Nat) : Int) := by
  unfold bor
  have e0 : IntKind.i64.bits = 64 := rfl
  have h64 : (2 : Nat) ^ 62 < 2 ^ 64 := by decide
  have e1 : (BitVec.ofInt 64 (a : Int)).toNat = a := by
    rw [BitVec.ofInt_natCast, BitVec.toNat_ofNat]; exact Nat.mod_eq_of_lt (by omega)
  have e2 : (BitVec.ofInt 64 ((2 ^ n * b : Nat) : Int)).toNat = 2 ^ n * b := by
    rw [BitVec.ofInt_natCast, BitVec.toNat_ofNat]; exact Nat.mod_eq_of_lt (by omega)
  rw [e0, BitVec.toNat_or, e1, e2, Nat.or_comm, ← Nat.two_pow_add_eq_or_of_lt ha, Nat.add_comm]
  have h62 : (2 : Nat) ^ 62 = 4611686018427387904 := by decide
  exact Zo9 (by omega) (by omega)
end Go.Vx

namespace Go.Vx
open Go Go.RowKit
theorem Znl {a : Nat} (h : a < 9223372036854775808) : (BitVec.ofInt 64 (a : Int)).toNat = a := by
  rw [BitVec.ofInt_natCast, BitVec.toNat_ofNat]; exact Nat.mod_eq_of_lt (by omega)
theorem Zq5 {a b : Nat} (ha : a < 9223372036854775808) (hb : b < 9223372036854775808) : Jq .i64 (a : Int) (b : Int) = ((a &&& b : Nat) : Int) := by
  unfold Jq
  have e0 : IntKind.i64.bits = 64 := rfl
  rw [e0, BitVec.toNat_and, Znl ha, Znl hb]
  have := Nat.and_le_left (n := a) (m := b)
  exact Zo9 (by omega) (by omega)
theorem ZlJ {a b : Nat} (ha : a < 9223372036854775808) (hb : b < 9223372036854775808) : ZcI .i64 (a : Int) (b : Int) = ((a ^^^ b : Nat) : Int) := by
  unfold ZcI
  have e0 : IntKind.i64.bits = 64 := rfl
  rw [e0, BitVec.toNat_xor, Znl ha, Znl hb]
  have : a ^^^ b < 2 ^ 63 := Nat.xor_lt_two_pow (by omega) (by omega)
  exact Zo9 (by omega) (by omega)
def restB : BitVec 22 := 2097167#22
def zS (v : BitVec 22) : BitVec 22 := (v <<< 1) ^^^ (if v.msb then restB else 0#22)
theorem ZqO (a b : BitVec 22) : zS (a ^^^ b) = zS a ^^^ zS b := by
  have e1 : ∀ x y r : BitVec 22, (x ^^^ r) ^^^ (y ^^^ r) = x ^^^ y := fun x y r => by
    rw [BitVec.xor_assoc, BitVec.xor_comm y r, ← BitVec.xor_assoc r r y, BitVec.xor_self, BitVec.zero_xor]
  have e2 : ∀ x y r : BitVec 22, (x ^^^ r) ^^^ y = (x ^^^ y) ^^^ r := fun x y r => by
    rw [BitVec.xor_assoc, BitVec.xor_comm r y, ← BitVec.xor_assoc]
  unfold zS
  rw [BitVec.shiftLeft_xor_distrib, BitVec.msb_xor]
  cases a.msb <;> cases b.msb
  · simp
  · simp [BitVec.xor_assoc]
  · simp [e2]
  · simp [e1]
def pS (b : Nat → Bool) : Nat → BitVec 22
  | 0 => 0#22
  | k + 1 => zS (pS b k) ^^^ (if b k then restB else 0#22)
def rS (b : Nat → Bool) : Nat → BitVec 22
  | 0 => 0#22
  | k + 1 => zS (rS b k) ^^^ (if b k then 1#22 else 0#22)
def zI : Nat → BitVec 22 → BitVec 22
  | 0, v => v
  | k + 1, v => zS (zI k v)
theorem Zq9 (k : Nat) (a b : BitVec 22) : zI k (a ^^^ b) = zI k a ^^^ zI k b := by
  induction k with
  | zero => rfl
  | succ k ih => simp only [zI, ih, ZqO]
theorem ZrF (k : Nat) (v : BitVec 22) : zI k (zS v) = zS (zI k v) := by
  induction k with
  | zero => rfl
  | succ k ih => simp only [zI, ih]
theorem zI_one : zI 22 1#22 = restB := by decide
theorem zI_zero : zI 22 0#22 = 0#22 := by decide
theorem Zqu (b : Nat → Bool) : ∀ k, pS b k = zI 22 (rS b k)
  | 0 => zI_zero.symm
  | k + 1 => by
    rw [pS, rS, Zq9, ZrF, Zqu b k]
    congr 1
    cases b k
    · exact zI_zero.symm
    · exact zI_one.symm
theorem Znf {b : Nat → Bool} {n : Nat} (h : ∀ k, n ≤ k → b k = false) : ∀ j, rS b (n + j) = zI j (rS b n)
  | 0 => rfl
  | j + 1 => by
    rw [← Nat.add_assoc, rS, Znf h j, h _ (by omega)]
    simp [zI]
theorem ZqR {b : Nat → Bool} {n : Nat} (h : ∀ k, n ≤ k → b k = false) : rS b (n + 22) = pS b n := by rw [Znf h, Zqu]
theorem ZrV (v : BitVec 22) : decide (Jq .i64 (v.toNat : Int) 2097152 = 0) = !v.msb := by
  have := v.isLt
  rw [show (2097152 : Int) = ((2097152 : Nat) : Int) from rfl, Zq5 (by omega) (by omega)]
  rw [show (2097152 : Nat) = 2 ^ 21 from rfl]
  have e : v.msb = v.toNat.testBit 21 := by rw [BitVec.msb_eq_getLsbD_last]; rfl
  rw [e]
  have e2 : (v.toNat &&& 2 ^ 21).testBit 21 = v.toNat.testBit 21 := by rw [Nat.testBit_and, Nat.testBit_two_pow_self, Bool.and_true]
  cases hb : v.toNat.testBit 21
  · have : v.toNat &&& 2 ^ 21 = 0 := by
      refine Nat.eq_of_testBit_eq fun i => ?_
      rw [Nat.testBit_and, Nat.testBit_two_pow]
      by_cases h : 21 = i
      · subst h; rw [hb]; simp
      · simp [h]
    rw [this]; rfl
  · have : v.toNat &&& 2 ^ 21 ≠ 0 := fun h => by rw [h, Nat.zero_testBit, hb] at e2; cases e2
    have : ((v.toNat &&& 2 ^ 21 : Nat) : Int) ≠ 0 := by omega
    simp only [this, decide_false, Bool.not_true]
theorem ZrC (v : BitVec 22) : shl .i64 (v.toNat : Int) 1 = some ((v.toNat : Int) * 2) := by
  have := v.isLt
  unfold shl
  rw [if_neg (by decide)]
  congr 1
  have e : (2 : Int) ^ min (Int.toNat 1) IntKind.i64.bits = 2 := rfl
  rw [e]
  exact Zo9 (by omega) (by omega)
theorem Zru (v : BitVec 22) : Jq .i64 ((v.toNat : Int) * 2) 4194303 = ((v <<< 1).toNat : Int) := by
  have e : (4194303 : Int) = (2 : Int) ^ 22 - 1 := by decide
  rw [e, Zgu (n := 22) (by decide), BitVec.toNat_shiftLeft, Nat.shiftLeft_eq]
  rw [Int.natCast_emod, Int.natCast_mul]
  rfl
theorem Zsi (v : BitVec 22) : ZcI .i64 (v.toNat : Int) 2097167 = ((v ^^^ restB).toNat : Int) := by
  have := v.isLt
  rw [show (2097167 : Int) = ((2097167 : Nat) : Int) from rfl, ZlJ (by omega) (by omega), BitVec.toNat_xor]
  rfl
theorem Zqj (v : BitVec 22) (b : Bool) : zS v ^^^ (if b then restB else 0#22) = if (!(v.msb == b)) = true then (v <<< 1) ^^^ restB else v <<< 1 := by
  unfold zS
  cases v.msb <;> cases b
  · simp
  · simp
  · simp
  · simp [BitVec.xor_assoc]
theorem Zot (m : Nat) : (2 * m) ^^^ 1 = 2 * m + 1 := by
  have h1 : ((2 * m) ^^^ 1) % 2 ^ 1 = (2 * m) % 2 ^ 1 ^^^ 1 % 2 ^ 1 := Nat.xor_mod_two_pow
  have h2 : ((2 * m) ^^^ 1) / 2 ^ 1 = (2 * m) / 2 ^ 1 ^^^ 1 / 2 ^ 1 := Nat.xor_div_two_pow
  rw [show (2 * m) % 2 ^ 1 = 0 by omega, show 1 % 2 ^ 1 = 1 from rfl, Nat.zero_xor] at h1
  rw [show (2 * m) / 2 ^ 1 = m by omega, show 1 / 2 ^ 1 = 0 from rfl, Nat.xor_zero] at h2
  omega
theorem ZpZ (v : BitVec 22) (b : Bool) : let R : Nat := 2 * v.toNat + b.toNat
    (if 4194304 ≤ R then R ^^^ 6291471 else R) = (zS v ^^^ (if b then 1#22 else 0#22)).toNat := by
  intro R
  have hv := v.isLt
  have hb : b.toNat ≤ 1 := by cases b <;> decide
  have hm : v.msb = decide (2097152 ≤ v.toNat) := by
    rw [BitVec.msb_eq_decide]
  have es : (v <<< 1).toNat = (2 * v.toNat) % 4194304 := by rw [BitVec.toNat_shiftLeft, Nat.shiftLeft_eq]; congr 1; omega
  obtain ⟨s, hs⟩ : ∃ s, (v <<< 1).toNat = 2 * s := ⟨(v <<< 1).toNat / 2, by omega⟩
  have e1 : ∀ u : BitVec 22, ((v <<< 1) ^^^ u ^^^ (if b then 1#22 else 0#22)).toNat = ((v <<< 1).toNat + b.toNat) ^^^ u.toNat := fun u => by
    rw [BitVec.toNat_xor, BitVec.toNat_xor, hs]
    cases b
    · simp
    · simp only [if_true, Bool.toNat_true]
      rw [← Zot, Nat.xor_assoc, Nat.xor_comm u.toNat, ← Nat.xor_assoc]; rfl
  unfold zS
  by_cases h : 2097152 ≤ v.toNat
  · rw [if_pos (by omega), hm, decide_eq_true h, if_pos rfl, e1]
    have h1 : (R ^^^ 6291471) % 2 ^ 22 = R % 2 ^ 22 ^^^ 6291471 % 2 ^ 22 := Nat.xor_mod_two_pow
    have h2 : (R ^^^ 6291471) / 2 ^ 22 = R / 2 ^ 22 ^^^ 6291471 / 2 ^ 22 := Nat.xor_div_two_pow
    have h3 : R / 2 ^ 22 = 1 := by omega
    have h4 : R % 2 ^ 22 = (v <<< 1).toNat + b.toNat := by omega
    rw [h3, show 6291471 / 2 ^ 22 = 1 from rfl, Nat.xor_self] at h2
    rw [h4, show 6291471 % 2 ^ 22 = restB.toNat from rfl] at h1
    omega
  · rw [if_neg (by omega), hm, decide_eq_false h, if_neg (by decide), e1]
    simp only [BitVec.toNat_ofNat, Nat.zero_mod, Nat.xor_zero]
    omega
end Go.Vx

namespace Go.Vx
open Go Go.RowKit
def XV (x : api_Piece) : Prop := (wfL (wfI .u8)) x.Bytes ∧ wfT x.Half ∧ True
end Go.Vx

namespace Go.Vx
open Go Go.RowKit
def Xw {σ ρ : Type} (b : σ → Option (σ ⊕ ρ)) (s : σ) : Option ρ :=
  Nat.rec (motive := fun _ => σ → Option ρ) (fun _ => none) (fun _ ih s => match b s with | none => none | some (.inl s') => ih s' | some (.inr r) => some r) 1000000 s
def Le {α : Type} (a b : Option α) : Prop := ∀ r, a = some r → b = some r
theorem Le.refl {α : Type} (a : Option α) : Le a a := fun _ h => h
section
variable {α β γ δ ε ζ η θ ι κ σ ρ : Type}
theorem Le.bind {a b : Option α} {f g : α → Option β} (h : Le a b) (hf : ∀ x, Le (f x) (g x)) : Le (a.bind f) (b.bind g) := by
  intro r hr
  cases ha : a with
  | none => rw [ha] at hr; cases hr
  | some x => rw [ha] at hr; rw [h x ha]; exact hf x r hr
theorem Le.ite {c : Prop} [Decidable c] {a b a' b' : Option α} (h1 : Le a a') (h2 : Le b b') : Le (if c then a else b) (if c then a' else b') := by
  split
  · exact h1
  · exact h2
theorem Le.gd {g : Bool} {d : α} {a b : Option α} (h : Le a b) : Le (gd g d a) (gd g d b) := by
  cases g
  · exact fun r hr => hr
  · exact h
theorem Le.loop {b b' : σ → Option (σ ⊕ ρ)} {s : σ} (h : ∀ s, Le (b s) (b' s)) : Le (Xw b s) (loop b' s) := by
  have key : ∀ n s r, Nat.rec (motive := fun _ => σ → Option ρ) (fun _ => none) (fun _ ih s => match b s with | none => none | some (.inl s') => ih s' | some (.inr r) => some r) n s = some r → ZdX b' n s = some r := by
    intro n
    induction n with
    | zero => intro s r hr; cases hr
    | succ n ih =>
      intro s r hr
      simp only at hr
      cases hb : b s with
      | none => rw [hb] at hr; cases hr
      | some o =>
        rw [hb] at hr
        simp only [ZdX, h s o hb, Option.bind_some]
        cases o with
        | inl s' => exact ih s' r hr
        | inr r' => exact hr
  intro r hr
  exact Zir (key 1000000 s r hr)
theorem Le.t0 {f g : Option κ} {p : Unit} (h : Le f g) : Le (t0 f p) (t0 g p) := h
theorem Le.t1 {f g : α → Option κ} {p : α} (h : ∀ a, Le (f a) (g a)) : Le (t1 f p) (t1 g p) := h _
theorem Le.t2 {f g : α → β → Option κ} {p : α × β} (h : ∀ a b, Le (f a b) (g a b)) : Le (t2 f p) (t2 g p) := h _ _
theorem Le.t3 {f g : α → β → γ → Option κ} {p : α × β × γ} (h : ∀ a b c, Le (f a b c) (g a b c)) : Le (t3 f p) (t3 g p) := h _ _ _
theorem Le.t4 {f g : α → β → γ → δ → Option κ} {p : α × β × γ × δ} (h : ∀ a b c d, Le (f a b c d) (g a b c d)) : Le (t4 f p) (t4 g p) := h _ _ _ _
theorem Le.t5 {f g : α → β → γ → δ → ε → Option κ} {p : α × β × γ × δ × ε} (h : ∀ a b c d e, Le (f a b c d e) (g a b c d e)) : Le (t5 f p) (t5 g p) := h _ _ _ _ _
theorem Le.t6 {f g : α → β → γ → δ → ε → ζ → Option κ} {p : α × β × γ × δ × ε × ζ} (h : ∀ a b c d e x, Le (f a b c d e x) (g a b c d e x)) : Le (t6 f p) (t6 g p) := h _ _ _ _ _ _
theorem Le.t7 {f g : α → β → γ → δ → ε → ζ → η → Option κ} {p : α × β × γ × δ × ε × ζ × η} (h : ∀ a b c d e x y, Le (f a b c d e x y) (g a b c d e x y)) : Le (t7 f p) (t7 g p) := h _ _ _ _ _ _ _
theorem Le.t8 {f g : α → β → γ → δ → ε → ζ → η → θ → Option κ} {p : α × β × γ × δ × ε × ζ × η × θ} (h : ∀ a b c d e x y z, Le (f a b c d e x y z) (g a b c d e x y z)) : Le (t8 f p) (t8 g p) := h _ _ _ _ _ _ _ _
theorem Le.elim {f f' : α → Option κ} {g g' : β → Option κ} {s : α ⊕ β} (h1 : ∀ a, Le (f a) (f' a)) (h2 : ∀ b, Le (g b) (g' b)) : Le (Sum.elim f g s) (Sum.elim f' g' s) := by
  cases s with
  | inl a => exact h1 a
  | inr b => exact h2 b
end
end Go.Vx

namespace Go.Vx
open Go Go.RowKit
def ZqA : List Int → Option (List Int)
  | [x] => some [x]
  | _ => none
theorem Zoe (xs : List Int) : Le (ZqA xs) (Zhl xs) := by
  intro r h
  match xs, h with
  | [x], h => cases h; unfold Zhl; rw [if_pos (by simp), List.mergeSort_singleton]
end Go.Vx

namespace Go.Vx
open Go Go.RowKit
set_option linter.unusedVariables false

noncomputable def Ze1 (data : List Int) (f2 : Vector Int 64) (i : Int) : Option (((Vector Int 64) × Int) ⊕ ((Vector Int 64) × Int) ⊕ ((Vector Int 64))) :=
  if (decide (i < (data.length : Int))) = true then
  (idx data i).bind fun x3 =>
  if ((decide (x3 < 0)) || (decide (2047 < x3))) = true then
  some (.inr (.inl ((#v[0, 0, 0, 0, 0, 0, 0, 0, 0, 0, 0, 0, 0, 0, 0, 0, 0, 0, 0, 0, 0, 0, 0, 0, 0, 0, 0, 0, 0, 0, 0, 0, 0, 0, 0, 0, 0, 0, 0, 0, 0, 0, 0, 0, 0, 0, 0, 0, 0, 0, 0, 0, 0, 0, 0, 0, 0, 0, 0, 0, 0, 0, 0, 0] : Vector Int 64), 9)))
  else
  (ZA f2 (i64 (3 + i))).bind fun x4 =>
  some (.inl ((Qp f2 (i64 (3 + i)) (u16 x3)), (i64 (i + 1))))
  else
  some (.inr (.inr f2))
theorem Zku (data : List Int) (f2 : Vector Int 64) (i : Int) : Le (Ze1 data f2 i) (ZeF data f2 i) := by
  unfold Ze1 ZeF
  with_reducible repeat' (first | exact Le.refl _ | apply Le.bind | apply Le.ite | intro _)

noncomputable def Ze6 (n2 : Int) (ones2 : Int) : Option ((Int × Int) ⊕ (Int)) :=
  if (decide (0 < n2)) = true then
  (rem n2 2).bind fun q =>
  (quo .i64 n2 2).bind fun q2 =>
  some (.inl (q2, (i64 (ones2 + q))))
  else
  some (.inr ones2)
theorem ZjT (n2 : Int) (ones2 : Int) : Le (Ze6 n2 ones2) (ZeH n2 ones2) := by
  unfold Ze6 ZeH
  with_reducible repeat' (first | exact Le.refl _ | apply Le.bind | apply Le.ite | intro _)

noncomputable def Zda (n : Int) : Option Bool :=
  ((Xw (t2 (Ze6)) (n, 0)) : Option ((Int))).bind (t1 fun (ones : Int) =>
  (rem ones 2).bind fun q3 =>
  some (decide (q3 = 1)))
theorem Zje (n : Int) : Le (Zda n) (ZcG n) := by
  unfold Zda ZcG
  with_reducible repeat' (first | exact Le.refl _ | apply Le.bind | apply Le.loop | apply Le.t1 | apply Le.t2 | apply ZjT | intro _)

noncomputable def Zcy (data : Int) : Option Int :=
  (Zda data).bind fun y =>
  if y = true then
  some data
  else
  some (i64 (data + 2048))
theorem Zfy (data : Int) : Le (Zcy data) (X7 data) := by
  unfold Zcy X7
  with_reducible repeat' (first | exact Le.refl _ | apply Le.bind | apply Le.ite | apply Zje | intro _)

noncomputable def Zdj (f3 : Vector Int 64) (i : Int) : Option (((Vector Int 64) × Int) ⊕ ((Vector Int 64))) :=
  if (decide (i ≤ 60)) = true then
  (ZA f3 i).bind fun x =>
  (rem (i64 x) 2048).bind fun q =>
  (Zcy q).bind fun y =>
  (ZA f3 i).bind fun x2 =>
  some (.inl ((Qp f3 i (u16 y)), (i64 (i + 1))))
  else
  some (.inr f3)
theorem Zit (f3 : Vector Int 64) (i : Int) : Le (Zdj f3 i) (ZcR f3 i) := by
  unfold Zdj ZcR
  with_reducible repeat' (first | exact Le.refl _ | apply Le.bind | apply Le.ite | apply Zfy | intro _)

noncomputable def ZdT (f : Vector Int 64) : Option Int :=
  (ZA f 1).bind fun x =>
  (rem (i64 x) 2048).bind fun q =>
  (ZA f 2).bind fun x2 =>
  (rem (i64 x2) 2048).bind fun q2 =>
  some (i64 (q + (i64 (q2 * 2048))))
theorem ZiX (f : Vector Int 64) : Le (ZdT f) (XB f) := by
  unfold ZdT XB
  with_reducible repeat' (first | exact Le.refl _ | apply Le.bind | intro _)

noncomputable def ZeW (number : Int) : Option Int :=
  (rem number 4).bind fun q =>
  (ZA (#v[583, 1464, 2631, 3512] : Vector Int 4) q).bind fun x =>
  some x
theorem Zkp (number : Int) : Le (ZeW number) (Jk number) := by
  unfold ZeW Jk
  with_reducible repeat' (first | exact Le.refl _ | apply Le.bind | intro _)

noncomputable def ZeX (f : Vector Int 64) (x2 : Int) (i : Int) : Option ((Int × Int) ⊕ (Int)) :=
  if (decide (i ≤ 60)) = true then
  (ZA f i).bind fun x3 =>
  (rem (i64 x3) 2048).bind fun q =>
  some (.inl ((ZcI .i64 x2 q), (i64 (i + 1))))
  else
  some (.inr x2)
theorem Zkr (f : Vector Int 64) (x2 : Int) (i : Int) : Le (ZeX f x2 i) (Zbg f x2 i) := by
  unfold ZeX Zbg
  with_reducible repeat' (first | exact Le.refl _ | apply Le.bind | apply Le.ite | intro _)

noncomputable def ZhI (f : Vector Int 64) : Option Int :=
  ((Xw (t2 (ZeX f)) (0, 1)) : Option ((Int))).bind (t1 fun (x : Int) =>
  some x)
theorem Zl7 (f : Vector Int 64) : Le (ZhI f) (Zb1 f) := by
  unfold ZhI Zb1
  with_reducible repeat' (first | exact Le.refl _ | apply Le.bind | apply Le.loop | apply Le.t1 | apply Le.t2 | apply Zkr | intro _)

noncomputable def ZdY (f : Vector Int 64) (rest2 : Int) (i : Int) : Option ((Int × Int) ⊕ (Int)) :=
  if (decide (i < 766)) = true then
  ((if (decide (i < 744)) = true then
  (quo .i64 i 12).bind fun q =>
  (ZA f q).bind fun x =>
  (rem i 12).bind fun q2 =>
  (shr .i64 (i64 x) (i64 (11 - q2))).bind fun q3 =>
  some (Jq .i64 q3 1)
  else
  some 0) : Option ((Int))).bind (t1 fun (bit : Int) =>
  if (decide (4194304 ≤ (i64 ((i64 (rest2 * 2)) + bit)))) = true then
  some (.inl ((ZcI .i64 (i64 ((i64 (rest2 * 2)) + bit)) 6291471), (i64 (i + 1))))
  else
  some (.inl ((i64 ((i64 (rest2 * 2)) + bit)), (i64 (i + 1)))))
  else
  some (.inr rest2)
theorem Zi6 (f : Vector Int 64) (rest2 : Int) (i : Int) : Le (ZdY f rest2 i) (Zad f rest2 i) := by
  unfold ZdY Zad
  with_reducible repeat' (first | exact Le.refl _ | apply Le.bind | apply Le.ite | apply Le.t1 | intro _)

noncomputable def Zfv (f : Vector Int 64) : Option Int :=
  ((Xw (t2 (ZdY f)) (0, 0)) : Option ((Int))).bind (t1 fun (rest : Int) =>
  some rest)
theorem ZkU (f : Vector Int 64) : Le (Zfv f) (J8 f) := by
  unfold Zfv J8
  with_reducible repeat' (first | exact Le.refl _ | apply Le.bind | apply Le.loop | apply Le.t1 | apply Le.t2 | apply Zi6 | intro _)

noncomputable def Zel (f : Vector Int 64) : Option (Vector Int 64) :=
  (Zfv f).bind fun y =>
  (quo .i64 y 2048).bind fun q =>
  (Zcy q).bind fun y2 =>
  (rem y 2048).bind fun q2 =>
  (Zcy q2).bind fun y3 =>
  (ZA f 62).bind fun x =>
  (ZA (Qp f 62 (u16 y2)) 63).bind fun x2 =>
  some (Qp (Qp f 62 (u16 y2)) 63 (u16 y3))
theorem ZjA (f : Vector Int 64) : Le (Zel f) (Zc0 f) := by
  unfold Zel Zc0
  with_reducible repeat' (first | exact Le.refl _ | apply Le.bind | apply ZkU | apply Zfy | intro _)

noncomputable def ZeR (f : Vector Int 64) : Option (Vector Int 64) :=
  ((Xw (t2 (Zdj)) (f, 1)) : Option (((Vector Int 64)))).bind (t1 fun (f2 : Vector Int 64) =>
  (ZdT f2).bind fun y2 =>
  (ZeW y2).bind fun y3 =>
  (ZA f2 0).bind fun x3 =>
  (ZhI (Qp f2 0 (u16 y3))).bind fun y4 =>
  (Zcy y4).bind fun y5 =>
  (ZA (Qp f2 0 (u16 y3)) 61).bind fun x4 =>
  (Zel (Qp (Qp f2 0 (u16 y3)) 61 (u16 y5))).bind fun y6 =>
  some y6)
theorem ZkC (f : Vector Int 64) : Le (ZeR f) (ZdC f) := by
  unfold ZeR ZdC
  with_reducible repeat' (first | exact Le.refl _ | apply Le.bind | apply Le.loop | apply Le.t1 | apply Le.t2 | apply Zit | apply ZiX | apply Zkp | apply Zl7 | apply Zfy | apply ZjA | intro _)

noncomputable def ZhE (number : Int) (data : List Int) : Option ((Vector Int 64) × Int) :=
  if ((decide (number < 0)) || (decide (4194304 ≤ number))) = true then
  some ((#v[0, 0, 0, 0, 0, 0, 0, 0, 0, 0, 0, 0, 0, 0, 0, 0, 0, 0, 0, 0, 0, 0, 0, 0, 0, 0, 0, 0, 0, 0, 0, 0, 0, 0, 0, 0, 0, 0, 0, 0, 0, 0, 0, 0, 0, 0, 0, 0, 0, 0, 0, 0, 0, 0, 0, 0, 0, 0, 0, 0, 0, 0, 0, 0] : Vector Int 64), 9)
  else
  if (!decide ((data.length : Int) = 58)) = true then
  some ((#v[0, 0, 0, 0, 0, 0, 0, 0, 0, 0, 0, 0, 0, 0, 0, 0, 0, 0, 0, 0, 0, 0, 0, 0, 0, 0, 0, 0, 0, 0, 0, 0, 0, 0, 0, 0, 0, 0, 0, 0, 0, 0, 0, 0, 0, 0, 0, 0, 0, 0, 0, 0, 0, 0, 0, 0, 0, 0, 0, 0, 0, 0, 0, 0] : Vector Int 64), 3)
  else
  (rem number 2048).bind fun q =>
  (quo .i64 number 2048).bind fun q2 =>
  (ZA (#v[0, 0, 0, 0, 0, 0, 0, 0, 0, 0, 0, 0, 0, 0, 0, 0, 0, 0, 0, 0, 0, 0, 0, 0, 0, 0, 0, 0, 0, 0, 0, 0, 0, 0, 0, 0, 0, 0, 0, 0, 0, 0, 0, 0, 0, 0, 0, 0, 0, 0, 0, 0, 0, 0, 0, 0, 0, 0, 0, 0, 0, 0, 0, 0] : Vector Int 64) 1).bind fun x =>
  (ZA (Qp (#v[0, 0, 0, 0, 0, 0, 0, 0, 0, 0, 0, 0, 0, 0, 0, 0, 0, 0, 0, 0, 0, 0, 0, 0, 0, 0, 0, 0, 0, 0, 0, 0, 0, 0, 0, 0, 0, 0, 0, 0, 0, 0, 0, 0, 0, 0, 0, 0, 0, 0, 0, 0, 0, 0, 0, 0, 0, 0, 0, 0, 0, 0, 0, 0] : Vector Int 64) 1 (u16 q)) 2).bind fun x2 =>
  ((Xw (t2 (Ze1 data)) ((Qp (Qp (#v[0, 0, 0, 0, 0, 0, 0, 0, 0, 0, 0, 0, 0, 0, 0, 0, 0, 0, 0, 0, 0, 0, 0, 0, 0, 0, 0, 0, 0, 0, 0, 0, 0, 0, 0, 0, 0, 0, 0, 0, 0, 0, 0, 0, 0, 0, 0, 0, 0, 0, 0, 0, 0, 0, 0, 0, 0, 0, 0, 0, 0, 0, 0, 0] : Vector Int 64) 1 (u16 q)) 2 (u16 q2)), 0)) : Option (((Vector Int 64) × Int) ⊕ ((Vector Int 64)))).bind (Sum.elim (fun q' => some q') (t1 fun (f : Vector Int 64) =>
  (ZeR f).bind fun y =>
  some (y, 0)))
theorem ZlW (number : Int) (data : List Int) : Le (ZhE number data) (ZgP number data) := by
  unfold ZhE ZgP
  with_reducible repeat' (first | exact Le.refl _ | apply Le.bind | apply Le.ite | apply Le.loop | apply Le.t1 | apply Le.t2 | apply Le.elim | apply Zku | apply ZkC | intro _)

noncomputable def ZeA (f : Vector Int 64) (i : Int) : Option ((Int) ⊕ (Bool) ⊕ (Unit)) :=
  if (decide (i < 64)) = true then
  (ZA f i).bind fun x =>
  if (decide (4095 < x)) = true then
  some (.inr (.inl true))
  else
  some (.inl (i64 (i + 1)))
  else
  some (.inr (.inr ()))
theorem Zjz (f : Vector Int 64) (i : Int) : Le (ZeA f i) (Zea f i) := by
  unfold ZeA Zea
  with_reducible repeat' (first | exact Le.refl _ | apply Le.bind | apply Le.ite | intro _)

noncomputable def ZgK (f : Vector Int 64) : Option Bool :=
  ((Xw (t1 (ZeA f)) 0) : Option ((Bool) ⊕ (Unit))).bind (Sum.elim (fun q' => some q') (t0 (some false)))
theorem ZlC (f : Vector Int 64) : Le (ZgK f) (Zfk f) := by
  unfold ZgK Zfk
  with_reducible repeat' (first | exact Le.refl _ | apply Le.bind | apply Le.loop | apply Le.t0 | apply Le.t1 | apply Le.elim | apply Zjz | intro _)

noncomputable def ZeK (f : Vector Int 64) (n : Int) : Option Int :=
  (quo .i64 n 3).bind fun q =>
  (ZA f q).bind fun x =>
  (rem n 3).bind fun q2 =>
  (shr .i64 (i64 x) (i64 (8 - (i64 (q2 * 4))))).bind fun q3 =>
  some (Jq .i64 q3 15)
theorem Zlx (f : Vector Int 64) (n : Int) : Le (ZeK f n) (Zeg f n) := by
  unfold ZeK Zeg
  with_reducible repeat' (first | exact Le.refl _ | apply Le.bind | intro _)

noncomputable def ZdQ (f : Vector Int 64) (l : List Int) (out2 : List Int) (i : Int) : Option (((List Int) × Int) ⊕ ((List Int))) :=
  if (decide (i < (l.length : Int))) = true then
  (ZeK f (i64 (2 * i))).bind fun y =>
  (ZeK f (i64 ((i64 (2 * i)) + 1))).bind fun y2 =>
  (idx out2 i).bind fun x =>
  some (.inl ((out2.set i.toNat (u8 (i64 ((i64 (16 * y)) + y2)))), (i64 (i + 1))))
  else
  some (.inr out2)
theorem ZiI (f : Vector Int 64) (l : List Int) (out2 : List Int) (i : Int) : Le (ZdQ f l out2 i) (Zdu f l out2 i) := by
  unfold ZdQ Zdu
  with_reducible repeat' (first | exact Le.refl _ | apply Le.bind | apply Le.ite | apply Zlx | intro _)

noncomputable def ZfE (f : Vector Int 64) : Option (List Int) :=
  (mks 96 0).bind fun l =>
  ((Xw (t2 (ZdQ f l)) (l, 0)) : Option (((List Int)))).bind (t1 fun (out : List Int) =>
  some out)
theorem ZkO (f : Vector Int 64) : Le (ZfE f) (Zej f) := by
  unfold ZfE Zej
  with_reducible repeat' (first | exact Le.refl _ | apply Le.bind | apply Le.loop | apply Le.t1 | apply Le.t2 | apply ZiI | intro _)

noncomputable def Zew (f : Vector Int 64) : Option ((List Int) × Int) :=
  (ZgK f).bind fun y =>
  if y = true then
  some ([], 9)
  else
  (ZfE f).bind fun y2 =>
  some (y2, 0)
theorem Zjt (f : Vector Int 64) : Le (Zew f) (ZcZ f) := by
  unfold Zew ZcZ
  with_reducible repeat' (first | exact Le.refl _ | apply Le.bind | apply Le.ite | apply ZlC | apply ZkO | intro _)

noncomputable def Zbj (p : api_Piece) : Option Int :=
  if (decide (200000 < (p.Bytes.length : Int))) = true then
  some 3
  else
  (gd ((p.Half == true) && ((decide ((p.Bytes.length : Int) = 0)) == false)) 0 (idx p.Bytes 0)).bind fun x =>
  (gd ((p.Half == true) && ((decide ((p.Bytes.length : Int) = 0)) == false)) 0 (shr .u8 x 4)).bind fun q =>
  if (p.Half && ((decide ((p.Bytes.length : Int) = 0)) || (!decide (q = 0)))) = true then
  some 2
  else
  some 0
theorem ZfV (p : api_Piece) : Le (Zbj p) (Xl p) := by
  unfold Zbj Xl
  with_reducible repeat' (first | exact Le.refl _ | apply Le.bind | apply Le.ite | apply Le.gd | intro _)

noncomputable def Zbi (l : List api_Piece) (i : Int) : Option ((Int) ⊕ ((List api_Rest) × Int) ⊕ (Unit)) :=
  if (decide (i < (l.length : Int))) = true then
  (idx l i).bind fun x =>
  (Zbj x).bind fun y =>
  if (!decide (y = 0)) = true then
  some (.inr (.inl ([], y)))
  else
  some (.inl (i64 (i + 1)))
  else
  some (.inr (.inr ()))
theorem Zgb (l : List api_Piece) (i : Int) : Le (Zbi l i) (Q1 l i) := by
  unfold Zbi Q1
  with_reducible repeat' (first | exact Le.refl _ | apply Le.bind | apply Le.ite | apply ZfV | intro _)

noncomputable def Zcc (p : api_Piece) : Option Int :=
  if p.Half = true then
  some 1
  else
  some 0
theorem Zfl (p : api_Piece) : Le (Zcc p) (Jo p) := by
  unfold Zcc Jo
  with_reducible repeat' (first | exact Le.refl _ | apply Le.bind | apply Le.ite | intro _)

noncomputable def Zc9 (p : api_Piece) : Option Int :=
  (Zcc p).bind fun y =>
  some (i64 ((i64 (2 * (p.Bytes.length : Int))) - y))
theorem ZhK (p : api_Piece) : Le (Zc9 p) (JE p) := by
  unfold Zc9 JE
  with_reducible repeat' (first | exact Le.refl _ | apply Le.bind | apply Zfl | intro _)

noncomputable def Zdg (b : List Int) (i : Int) : Option Int :=
  (quo .i64 i 2).bind fun q =>
  (idx b q).bind fun x =>
  (rem i 2).bind fun q2 =>
  (shr .u8 x (i64 (4 - (i64 (4 * q2))))).bind fun q3 =>
  some (Jq .u8 q3 15)
theorem Zin (b : List Int) (i : Int) : Le (Zdg b i) (JG b i) := by
  unfold Zdg JG
  with_reducible repeat' (first | exact Le.refl _ | apply Le.bind | intro _)

noncomputable def ZbR (p : api_Piece) (l : List Int) (out2 : List Int) (i : Int) : Option (((List Int) × Int) ⊕ ((List Int))) :=
  if (decide (i < (l.length : Int))) = true then
  (Zcc p).bind fun y2 =>
  (Zdg p.Bytes (i64 (i + y2))).bind fun y3 =>
  (idx out2 i).bind fun x =>
  some (.inl ((out2.set i.toNat y3), (i64 (i + 1))))
  else
  some (.inr out2)
theorem Zgq (p : api_Piece) (l : List Int) (out2 : List Int) (i : Int) : Le (ZbR p l out2 i) (XG p l out2 i) := by
  unfold ZbR XG
  with_reducible repeat' (first | exact Le.refl _ | apply Le.bind | apply Le.ite | apply Zfl | apply Zin | intro _)

noncomputable def Zdh (p : api_Piece) : Option (List Int) :=
  (Zc9 p).bind fun y =>
  (mks y 0).bind fun l =>
  ((Xw (t2 (ZbR p l)) (l, 0)) : Option (((List Int)))).bind (t1 fun (out : List Int) =>
  some out)
theorem Ziv (p : api_Piece) : Le (Zdh p) (X0 p) := by
  unfold Zdh X0
  with_reducible repeat' (first | exact Le.refl _ | apply Le.bind | apply Le.loop | apply Le.t1 | apply Le.t2 | apply ZhK | apply Zgq | intro _)

noncomputable def Zak (h_ : List Int) : Option Int :=
  (idx h_ 0).bind fun x =>
  (shl .u16 (u16 x) 8).bind fun q =>
  (idx h_ 1).bind fun x2 =>
  (shl .u16 (u16 x2) 4).bind fun q2 =>
  (idx h_ 2).bind fun x3 =>
  some (bor .u16 (bor .u16 q q2) (u16 x3))
theorem ZcE (h_ : List Int) : Le (Zak h_) (Xi h_) := by
  unfold Zak Xi
  with_reducible repeat' (first | exact Le.refl _ | apply Le.bind | intro _)

noncomputable def ZcN (number : Int) : Option (Int × Int) :=
  if ((decide (number < 0)) || (decide (4194304 ≤ number))) = true then
  some (0, 9)
  else
  (rem number 4).bind fun q =>
  (ZA gv_frame_syncs q).bind fun x =>
  some ((i64 x), 0)
theorem ZeS (number : Int) : Le (ZcN number) (Zah number) := by
  unfold ZcN Zah
  with_reducible repeat' (first | exact Le.refl _ | apply Le.bind | apply Le.ite | intro _)

noncomputable def ZbT (w : Int) (i : Int) : Option ((Int) ⊕ (Bool) ⊕ (Unit)) :=
  if (decide (i < 4)) = true then
  (ZcN i).bind fun y =>
  if (decide ((u16 y.1) = w)) = true then
  some (.inr (.inl true))
  else
  some (.inl (i64 (i + 1)))
  else
  some (.inr (.inr ()))
theorem Zgf (w : Int) (i : Int) : Le (ZbT w i) (XJ w i) := by
  unfold ZbT XJ
  with_reducible repeat' (first | exact Le.refl _ | apply Le.bind | apply Le.ite | apply ZeS | intro _)

noncomputable def Zde (w : Int) : Option Bool :=
  ((Xw (t1 (ZbT w)) 0) : Option ((Bool) ⊕ (Unit))).bind (Sum.elim (fun q' => some q') (t0 (some false)))
theorem ZiA (w : Int) : Le (Zde w) (Jt w) := by
  unfold Zde Jt
  with_reducible repeat' (first | exact Le.refl _ | apply Le.bind | apply Le.loop | apply Le.t0 | apply Le.t1 | apply Le.elim | apply Zgf | intro _)

noncomputable def Zbf (w : Vector Int 192) (f2 : Vector Int 64) (i : Int) : Option (((Vector Int 64) × Int) ⊕ ((Vector Int 64))) :=
  if (decide (i < 64)) = true then
  (slc w.toList (i64 (3 * i)) (i64 ((i64 (3 * i)) + 3))).bind fun l =>
  (Zak l).bind fun y =>
  (ZA f2 i).bind fun x =>
  some (.inl ((Qp f2 i y), (i64 (i + 1))))
  else
  some (.inr f2)
theorem Zf7 (w : Vector Int 192) (f2 : Vector Int 64) (i : Int) : Le (Zbf w f2 i) (Xq w f2 i) := by
  unfold Zbf Xq
  with_reducible repeat' (first | exact Le.refl _ | apply Le.bind | apply Le.ite | apply ZcE | intro _)

noncomputable def ZcF (w : Vector Int 192) : Option (Vector Int 64) :=
  ((Xw (t2 (Zbf w)) ((Vector.replicate 64 0), 0)) : Option (((Vector Int 64)))).bind (t1 fun (f : Vector Int 64) =>
  some f)
theorem ZhF (w : Vector Int 192) : Le (ZcF w) (Jb w) := by
  unfold ZcF Jb
  with_reducible repeat' (first | exact Le.refl _ | apply Le.bind | apply Le.loop | apply Le.t1 | apply Le.t2 | apply Zf7 | intro _)

noncomputable def ZdM (f : Vector Int 64) (i : Int) : Option ((Int) ⊕ (Bool) ⊕ (Unit)) :=
  if (decide (i < 64)) = true then
  (ZA f i).bind fun x =>
  if (decide (4095 < x)) = true then
  some (.inr (.inl true))
  else
  some (.inl (i64 (i + 1)))
  else
  some (.inr (.inr ()))
theorem Zja (f : Vector Int 64) (i : Int) : Le (ZdM f i) (J5 f i) := by
  unfold ZdM J5
  with_reducible repeat' (first | exact Le.refl _ | apply Le.bind | apply Le.ite | intro _)

noncomputable def Zd1 (f : Vector Int 64) : Option Bool :=
  ((Xw (t1 (ZdM f)) 0) : Option ((Bool) ⊕ (Unit))).bind (Sum.elim (fun q' => some q') (t0 (some false)))
theorem Zhk (f : Vector Int 64) : Le (Zd1 f) (Zbd f) := by
  unfold Zd1 Zbd
  with_reducible repeat' (first | exact Le.refl _ | apply Le.bind | apply Le.loop | apply Le.t0 | apply Le.t1 | apply Le.elim | apply Zja | intro _)

noncomputable def XZ (w : Int) : Option Int :=
  some (i64 (Jq .u16 w 2047))
theorem Zdw (w : Int) : Le (XZ w) (Xn w) := by
  unfold XZ Xn
  with_reducible repeat' (first | exact Le.refl _ | apply Le.bind | intro _)

noncomputable def Zav (f : Vector Int 64) : Option Int :=
  (ZA f 1).bind fun x =>
  (XZ x).bind fun y =>
  (ZA f 2).bind fun x2 =>
  (XZ x2).bind fun y2 =>
  (shl .i64 y2 11).bind fun q =>
  some (bor .i64 y q)
theorem ZcD (f : Vector Int 64) : Le (Zav f) (XF f) := by
  unfold Zav XF
  with_reducible repeat' (first | exact Le.refl _ | apply Le.bind | apply Zdw | intro _)

noncomputable def Zdc (f : Vector Int 64) (n2 : Int) (i : Int) : Option ((Int × Int) ⊕ (Int)) :=
  if (decide (i < 60)) = true then
  (ZA f (i64 (i + 1))).bind fun x =>
  (XZ x).bind fun y =>
  some (.inl ((ZcI .i64 n2 y), (i64 (i + 1))))
  else
  some (.inr n2)
theorem ZiC (f : Vector Int 64) (n2 : Int) (i : Int) : Le (Zdc f n2 i) (JF f n2 i) := by
  unfold Zdc JF
  with_reducible repeat' (first | exact Le.refl _ | apply Le.bind | apply Le.ite | apply Zdw | intro _)

noncomputable def ZbV (f : Vector Int 64) : Option Int :=
  ((Xw (t2 (Zdc f)) (0, 0)) : Option ((Int))).bind (t1 fun (n : Int) =>
  some n)
theorem ZgI (f : Vector Int 64) : Le (ZbV f) (JX f) := by
  unfold ZbV JX
  with_reducible repeat' (first | exact Le.refl _ | apply Le.bind | apply Le.loop | apply Le.t1 | apply Le.t2 | apply ZiC | intro _)

noncomputable def Zce (x : Int) : Option Int :=
  (shr .u16 x 8).bind fun q =>
  (ZnE [0, 1, 1, 2, 1, 2, 2, 3, 1, 2, 2, 3, 2, 3, 3, 4, 1, 2, 2, 3, 2, 3, 3, 4, 2, 3, 3, 4, 3, 4, 4, 5, 1, 2, 2, 3, 2, 3, 3, 4, 2, 3, 3, 4, 3, 4, 4, 5, 2, 3, 3, 4, 3, 4, 4, 5, 3, 4, 4, 5, 4, 5, 5, 6, 1, 2, 2, 3, 2, 3, 3, 4, 2, 3, 3, 4, 3, 4, 4, 5, 2, 3, 3, 4, 3, 4, 4, 5, 3, 4, 4, 5, 4, 5, 5, 6, 2, 3, 3, 4, 3, 4, 4, 5, 3, 4, 4, 5, 4, 5, 5, 6, 3, 4, 4, 5, 4, 5, 5, 6, 4, 5, 5, 6, 5, 6, 6, 7, 1, 2, 2, 3, 2, 3, 3, 4, 2, 3, 3, 4, 3, 4, 4, 5, 2, 3, 3, 4, 3, 4, 4, 5, 3, 4, 4, 5, 4, 5, 5, 6, 2, 3, 3, 4, 3, 4, 4, 5, 3, 4, 4, 5, 4, 5, 5, 6, 3, 4, 4, 5, 4, 5, 5, 6, 4, 5, 5, 6, 5, 6, 6, 7, 2, 3, 3, 4, 3, 4, 4, 5, 3, 4, 4, 5, 4, 5, 5, 6, 3, 4, 4, 5, 4, 5, 5, 6, 4, 5, 5, 6, 5, 6, 6, 7, 3, 4, 4, 5, 4, 5, 5, 6, 4, 5, 5, 6, 5, 6, 6, 7, 4, 5, 5, 6, 5, 6, 6, 7, 5, 6, 6, 7, 6, 7, 7, 8] q).bind fun b =>
  (ZnE [0, 1, 1, 2, 1, 2, 2, 3, 1, 2, 2, 3, 2, 3, 3, 4, 1, 2, 2, 3, 2, 3, 3, 4, 2, 3, 3, 4, 3, 4, 4, 5, 1, 2, 2, 3, 2, 3, 3, 4, 2, 3, 3, 4, 3, 4, 4, 5, 2, 3, 3, 4, 3, 4, 4, 5, 3, 4, 4, 5, 4, 5, 5, 6, 1, 2, 2, 3, 2, 3, 3, 4, 2, 3, 3, 4, 3, 4, 4, 5, 2, 3, 3, 4, 3, 4, 4, 5, 3, 4, 4, 5, 4, 5, 5, 6, 2, 3, 3, 4, 3, 4, 4, 5, 3, 4, 4, 5, 4, 5, 5, 6, 3, 4, 4, 5, 4, 5, 5, 6, 4, 5, 5, 6, 5, 6, 6, 7, 1, 2, 2, 3, 2, 3, 3, 4, 2, 3, 3, 4, 3, 4, 4, 5, 2, 3, 3, 4, 3, 4, 4, 5, 3, 4, 4, 5, 4, 5, 5, 6, 2, 3, 3, 4, 3, 4, 4, 5, 3, 4, 4, 5, 4, 5, 5, 6, 3, 4, 4, 5, 4, 5, 5, 6, 4, 5, 5, 6, 5, 6, 6, 7, 2, 3, 3, 4, 3, 4, 4, 5, 3, 4, 4, 5, 4, 5, 5, 6, 3, 4, 4, 5, 4, 5, 5, 6, 4, 5, 5, 6, 5, 6, 6, 7, 3, 4, 4, 5, 4, 5, 5, 6, 4, 5, 5, 6, 5, 6, 6, 7, 4, 5, 5, 6, 5, 6, 6, 7, 5, 6, 6, 7, 6, 7, 7, 8] (Jq .u16 x 255)).bind fun b2 =>
  some (i64 (u8 (b + b2)))
theorem Zg6 (x : Int) : Le (Zce x) (Zaz x) := by
  unfold Zce Zaz
  with_reducible repeat' (first | exact Le.refl _ | apply Le.bind | intro _)

noncomputable def Zbv (w : Int) : Option Bool :=
  (gd ((decide (w ≤ 4095)) == true) 0 (Zce w)).bind fun y =>
  (gd ((decide (w ≤ 4095)) == true) 0 (rem y 2)).bind fun q =>
  some ((decide (w ≤ 4095)) && (decide (q = 1)))
theorem Zd7 (w : Int) : Le (Zbv w) (Zat w) := by
  unfold Zbv Zat
  with_reducible repeat' (first | exact Le.refl _ | apply Le.bind | apply Le.gd | apply Zg6 | intro _)

noncomputable def Zdp (f : Vector Int 64) (i : Int) : Option ((Int) ⊕ (Bool) ⊕ (Unit)) :=
  if (decide (i < 64)) = true then
  (ZA f i).bind fun x4 =>
  (Zbv x4).bind fun y5 =>
  if (!y5) = true then
  some (.inr (.inl false))
  else
  some (.inl (i64 (i + 1)))
  else
  some (.inr (.inr ()))
theorem Zij (f : Vector Int 64) (i : Int) : Le (Zdp f i) (Jv f i) := by
  unfold Zdp Jv
  with_reducible repeat' (first | exact Le.refl _ | apply Le.bind | apply Le.ite | apply Zd7 | intro _)

noncomputable def Zcg (f : Vector Int 64) (i : Int) (n4 : Int) (k : Int) : Option ((Int × Int) ⊕ (Int)) :=
  if (decide (0 ≤ k)) = true then
  (shl .i64 n4 1).bind fun q =>
  (ZA f i).bind fun x =>
  (shr .u16 x k).bind fun q2 =>
  if (!((!decide ((Jq .i64 n4 2097152) = 0)) == (decide ((Jq .u16 q2 1) = 1)))) = true then
  some (.inl ((ZcI .i64 (Jq .i64 q 4194303) 2097167), (i64 (k - 1))))
  else
  some (.inl ((Jq .i64 q 4194303), (i64 (k - 1))))
  else
  some (.inr n4)
theorem Zg5 (f : Vector Int 64) (i : Int) (n4 : Int) (k : Int) : Le (Zcg f i n4 k) (Xt f i n4 k) := by
  unfold Zcg Xt
  with_reducible repeat' (first | exact Le.refl _ | apply Le.bind | apply Le.ite | intro _)

noncomputable def Zch (f : Vector Int 64) (n2 : Int) (i : Int) : Option ((Int × Int) ⊕ (Int)) :=
  if (decide (i < 62)) = true then
  ((Xw (t2 (Zcg f i)) (n2, 11)) : Option ((Int))).bind (t1 fun (n3 : Int) =>
  some (.inl (n3, (i64 (i + 1)))))
  else
  some (.inr n2)
theorem Zg8 (f : Vector Int 64) (n2 : Int) (i : Int) : Le (Zch f n2 i) (XR f n2 i) := by
  unfold Zch XR
  with_reducible repeat' (first | exact Le.refl _ | apply Le.bind | apply Le.ite | apply Le.loop | apply Le.t1 | apply Le.t2 | apply Zg5 | intro _)

noncomputable def ZaV (f : Vector Int 64) : Option Int :=
  ((Xw (t2 (Zch f)) (0, 0)) : Option ((Int))).bind (t1 fun (n : Int) =>
  some n)
theorem Zfb (f : Vector Int 64) : Le (ZaV f) (XU f) := by
  unfold ZaV XU
  with_reducible repeat' (first | exact Le.refl _ | apply Le.bind | apply Le.loop | apply Le.t1 | apply Le.t2 | apply Zg8 | intro _)

noncomputable def Zdy (f : Vector Int 64) : Option Bool :=
  (Zd1 f).bind fun y =>
  (gd (y == false) 0 (ZA f 0)).bind fun x =>
  (gd (y == false) 0 (Zav f)).bind fun y2 =>
  (gd (y == false) 0 (rem y2 4)).bind fun q =>
  (gd (y == false) 0 (ZA gv_frame_syncs q)).bind fun x2 =>
  (gd ((y || (!decide (x = x2))) == false) 0 (ZA f 61)).bind fun x3 =>
  (gd ((y || (!decide (x = x2))) == false) 0 (XZ x3)).bind fun y3 =>
  (gd ((y || (!decide (x = x2))) == false) 0 (ZbV f)).bind fun y4 =>
  if ((y || (!decide (x = x2))) || (!decide (y3 = y4))) = true then
  some false
  else
  ((Xw (t1 (Zdp f)) 1) : Option ((Bool) ⊕ (Unit))).bind (Sum.elim (fun q' => some q') (t0 ((ZA f 62).bind fun x5 =>
  (XZ x5).bind fun y6 =>
  (shl .i64 y6 11).bind fun q2 =>
  (ZA f 63).bind fun x6 =>
  (XZ x6).bind fun y7 =>
  (ZaV f).bind fun y8 =>
  some (decide ((bor .i64 q2 y7) = y8)))))
theorem Zge (f : Vector Int 64) : Le (Zdy f) (ZaE f) := by
  unfold Zdy ZaE
  with_reducible repeat' (first | exact Le.refl _ | apply Le.bind | apply Le.ite | apply Le.gd | apply Le.loop | apply Le.t0 | apply Le.t1 | apply Le.elim | apply Zhk | apply ZcD | apply Zdw | apply ZgI | apply Zij | apply Zfb | intro _)

noncomputable def Zds (f : Vector Int 64) : Option Bool :=
  (Zdy f).bind fun y =>
  some y
theorem ZgN (f : Vector Int 64) : Le (Zds f) (ZaH f) := by
  unfold Zds ZaH
  with_reducible repeat' (first | exact Le.refl _ | apply Le.bind | apply Zge | intro _)

noncomputable def Zby (h_ : List Int) (o : List api_Found) (at_ : Int) : Option (((List api_Found) × Int) ⊕ (List api_Found)) :=
  if (decide ((i64 (at_ + 192)) ≤ (h_.length : Int))) = true then
  (((slc h_ at_ (i64 (at_ + 3))).bind fun l =>
  (Zak l).bind fun y =>
  (Zde y).bind fun y2 =>
  if (!y2) = true then
  some (.inr o)
  else
  (slc h_ at_ (i64 (at_ + 192))).bind fun l2 =>
  (tov 192 l2).bind fun v =>
  (ZcF v).bind fun y3 =>
  (Zds y3).bind fun y4 =>
  if (y4 == true) = true then
  (app o [(api_Found.mk at_ y3)]).bind fun out2 =>
  if (!true) = true then
  some (.inl out2)
  else
  some (.inr out2)
  else
  if false = true then
  none
  else
  some (.inr o)) : Option ((List api_Found) ⊕ ((List api_Found)))).bind (Sum.elim (fun q' => some (.inr q')) (t1 fun (o2 : List api_Found) =>
  some (.inl (o2, (i64 (at_ + 1))))))
  else
  some (.inr o)
theorem ZfU (h_ : List Int) (o : List api_Found) (at_ : Int) : Le (Zby h_ o at_) (Xp h_ o at_) := by
  unfold Zby Xp
  with_reducible repeat' (first | exact Le.refl _ | apply Le.bind | apply Le.ite | apply Le.t1 | apply Le.elim | apply ZcE | apply ZiA | apply ZhF | apply ZgN | intro _)

noncomputable def ZcU (h_ : List Int) (out : List api_Found) : Option (List api_Found) :=
  Xw (t2 (Zby h_)) (out, 0)
theorem Zhy (h_ : List Int) (out : List api_Found) : Le (ZcU h_ out) (JS h_ out) := by
  unfold ZcU JS
  with_reducible repeat' (first | exact Le.refl _ | apply Le.bind | apply Le.loop | apply Le.t2 | apply ZfU | intro _)

noncomputable def Zez (h_ : List Int) : Option (List api_Found) :=
  ZcU h_ []
theorem ZjC (h_ : List Int) : Le (Zez h_) (ZaK h_) := by
  unfold Zez ZaK
  with_reducible repeat' (first | exact Le.refl _ | apply Le.bind | apply Zhy | intro _)

noncomputable def Zbl (y : List api_Found) (out2 : List api_Found) (i : Int) : Option (((List api_Found) × Int) ⊕ ((List api_Found))) :=
  if (decide (i < (y.length : Int))) = true then
  (idx y i).bind fun x =>
  (gd ((decide (i = 0)) == false) (api_Found.mk 0 (Vector.replicate 64 0)) (idx y (i64 (i - 1)))).bind fun x2 =>
  (gd ((((decide (i = 0)) || (decide (192 ≤ (i64 (x.At - x2.At))))) == true) && ((decide (i = (i64 ((y.length : Int) - 1)))) == false)) (api_Found.mk 0 (Vector.replicate 64 0)) (idx y (i64 (i + 1)))).bind fun x3 =>
  if (((decide (i = 0)) || (decide (192 ≤ (i64 (x.At - x2.At))))) && ((decide (i = (i64 ((y.length : Int) - 1)))) || (decide (192 ≤ (i64 (x3.At - x.At)))))) = true then
  (app out2 ([x] : List api_Found)).bind fun l =>
  some (.inl (l, (i64 (i + 1))))
  else
  some (.inl (out2, (i64 (i + 1))))
  else
  some (.inr out2)
theorem Zga (y : List api_Found) (out2 : List api_Found) (i : Int) : Le (Zbl y out2 i) (Q3 y out2 i) := by
  unfold Zbl Q3
  with_reducible repeat' (first | exact Le.refl _ | apply Le.bind | apply Le.ite | apply Le.gd | intro _)

noncomputable def ZcA (h_ : List Int) : Option (List api_Found) :=
  (Zez h_).bind fun y =>
  ((Xw (t2 (Zbl y)) ([], 0)) : Option (((List api_Found)))).bind (t1 fun (out : List api_Found) =>
  some out)
theorem ZhD (h_ : List Int) : Le (ZcA h_) (X9 h_) := by
  unfold ZcA X9
  with_reducible repeat' (first | exact Le.refl _ | apply Le.bind | apply Le.loop | apply Le.t1 | apply Le.t2 | apply ZjC | apply Zga | intro _)

noncomputable def Zbn (f : Vector Int 64) : Option (Int × Bool) :=
  (ZA f 1).bind fun x =>
  (Zbv x).bind fun y =>
  (gd ((!y) == false) 0 (ZA f 2)).bind fun x2 =>
  (gd ((!y) == false) false (Zbv x2)).bind fun y2 =>
  if ((!y) || (!y2)) = true then
  some (0, false)
  else
  (Zav f).bind fun y3 =>
  some (y3, true)
theorem ZdP (f : Vector Int 64) : Le (Zbn f) (Ji f) := by
  unfold Zbn Ji
  with_reducible repeat' (first | exact Le.refl _ | apply Le.bind | apply Le.ite | apply Le.gd | apply Zd7 | apply ZcD | intro _)

noncomputable def ZaI (y : (List api_Found)) (numbers2 : List Int) (at__2 : List (Int × Int)) (i : Int) : Option (((List Int) × (List (Int × Int)) × Int) ⊕ ((List Int) × (List (Int × Int)))) :=
  if (decide (i < (y.length : Int))) = true then
  (((idx y i).bind fun x =>
  (Zbn x.Frame).bind fun y2 =>
  (app numbers2 ([y2.1] : List Int)).bind fun l =>
  some (l, (Z0 kqI at__2 x.At i))) : Option (((List Int) × (List (Int × Int))))).bind (t2 fun (numbers3 : List Int) (at__3 : List (Int × Int)) =>
  some (.inl (numbers3, at__3, (i64 (i + 1)))))
  else
  some (.inr (numbers2, at__2))
theorem Zfd (y : (List api_Found)) (numbers2 : List Int) (at__2 : List (Int × Int)) (i : Int) : Le (ZaI y numbers2 at__2 i) (Q8 y numbers2 at__2 i) := by
  unfold ZaI Q8
  with_reducible repeat' (first | exact Le.refl _ | apply Le.bind | apply Le.ite | apply Le.t2 | apply ZdP | intro _)

noncomputable def ZbP (h_ : List Int) : Option salvage_finder :=
  (ZcA h_).bind fun y =>
  ((Xw (t3 (ZaI y)) ([], ([] : List (Int × Int)), 0)) : Option (((List Int) × (List (Int × Int))))).bind (t2 fun (numbers : List Int) (at__ : List (Int × Int)) =>
  some (salvage_finder.mk h_ y numbers ()))
theorem ZgR (h_ : List Int) : Le (ZbP h_) (XI h_) := by
  unfold ZbP XI
  with_reducible repeat' (first | exact Le.refl _ | apply Le.bind | apply Le.loop | apply Le.t2 | apply Le.t3 | apply ZhD | apply Zfd | intro _)

noncomputable def ZbO (state : Int) (out2 : Vector Int 64) (i : Int) : Option (((Vector Int 64) × Int) ⊕ ((Vector Int 64))) :=
  if (decide (i < 64)) = true then
  (ZA out2 i).bind fun x =>
  some (.inl ((Qp out2 i state), (i64 (i + 1))))
  else
  some (.inr out2)
theorem ZgH (state : Int) (out2 : Vector Int 64) (i : Int) : Le (ZbO state out2 i) (XH state out2 i) := by
  unfold ZbO XH
  with_reducible repeat' (first | exact Le.refl _ | apply Le.bind | apply Le.ite | intro _)

noncomputable def Zau (state : Int) : Option (Vector Int 64) :=
  ((Xw (t2 (ZbO state)) ((Vector.replicate 64 0), 0)) : Option (((Vector Int 64)))).bind (t1 fun (out : Vector Int 64) =>
  some out)
theorem ZcC (state : Int) : Le (Zau state) (XD state) := by
  unfold Zau XD
  with_reducible repeat' (first | exact Le.refl _ | apply Le.bind | apply Le.loop | apply Le.t1 | apply Le.t2 | apply ZgH | intro _)

noncomputable def Qm (x : List api_Found) (target : Int) (cmp : api_Found → Int → Option Int) (i2 : Int) (j : Int) : Option ((Int × Int) ⊕ (Int)) :=
  if (decide (i2 < j)) = true then
  (shr .u64 (u64 (i64 (i2 + j))) 1).bind fun q =>
  (idx x (i64 q)).bind fun x2 =>
  (cmp x2 target).bind fun y =>
  if (decide (y < 0)) = true then
  some (.inl ((i64 ((i64 q) + 1)), j))
  else
  some (.inl (i2, (i64 q)))
  else
  some (.inr i2)
theorem Je (x : List api_Found) (target : Int) (cmp : api_Found → Int → Option Int) (i2 : Int) (j : Int) (cmp' : api_Found → Int → Option Int) (h_cmp : ∀ z0 z1, Le (cmp z0 z1) (cmp' z0 z1)) : Le (Qm x target cmp i2 j) (ZK x target cmp' i2 j) := by
  unfold Qm ZK
  with_reducible repeat' (first | exact Le.refl _ | apply Le.bind | apply Le.ite | apply h_cmp | intro _)

noncomputable def Qs (x : List api_Found) (target : Int) (cmp : api_Found → Int → Option Int) : Option (Int × Bool) :=
  ((Xw (t2 (Qm x target cmp)) (0, (x.length : Int))) : Option ((Int))).bind (t1 fun (i : Int) =>
  (gd ((decide (i < (x.length : Int))) == true) (api_Found.mk 0 (Vector.replicate 64 0)) (idx x i)).bind fun x3 =>
  (gd ((decide (i < (x.length : Int))) == true) 0 (cmp x3 target)).bind fun y2 =>
  some (i, ((decide (i < (x.length : Int))) && (decide (y2 = 0)))))
theorem JB (x : List api_Found) (target : Int) (cmp : api_Found → Int → Option Int) (cmp' : api_Found → Int → Option Int) (h_cmp : ∀ z0 z1, Le (cmp z0 z1) (cmp' z0 z1)) : Le (Qs x target cmp) (ZM x target cmp') := by
  unfold Qs ZM
  with_reducible repeat' (first | exact Le.refl _ | apply Le.bind | apply Le.gd | apply Le.loop | apply Le.t1 | apply Le.t2 | apply Je | apply h_cmp | intro _)

noncomputable def JH (c_ : api_Found) (at_ : Int) : Option Int :=
  some (i64 (c_.At - at_))
theorem Zd5 (c_ : api_Found) (at_ : Int) : Le (JH c_ at_) (Qe c_ at_) := by
  unfold JH Qe
  with_reducible repeat' (first | exact Le.refl _ | apply Le.bind | intro _)

noncomputable def J7 (x : salvage_finder) (place : Int) : Option Int :=
  (Qs x.certain place (fun z0 z1 => JH z0 z1)).bind fun y =>
  (gd (((decide (y.1 = (x.certain.length : Int))) == false) && ((decide (0 < y.1)) == true)) (api_Found.mk 0 (Vector.replicate 64 0)) (idx x.certain (i64 (y.1 - 1)))).bind fun x2 =>
  (gd (((decide (y.1 = (x.certain.length : Int))) == false) && ((decide (0 < y.1)) == true)) (api_Found.mk 0 (Vector.replicate 64 0)) (idx x.certain y.1)).bind fun x3 =>
  if ((decide (y.1 = (x.certain.length : Int))) || ((decide (0 < y.1)) && (decide ((i64 (place - x2.At)) ≤ (i64 (x3.At - place)))))) = true then
  some (i64 (y.1 - 1))
  else
  some y.1
theorem ZeD (x : salvage_finder) (place : Int) : Le (J7 x place) (Qv x place) := by
  unfold J7 Qv
  with_reducible repeat' (first | exact Le.refl _ | apply Le.bind | apply Le.ite | apply Le.gd | apply JB | apply Zd5 | intro _)

noncomputable def Zc1 (n : Int) : Option Int :=
  some (max n (i64 (-n)))
theorem ZfP (n : Int) : Le (Zc1 n) (J4 n) := by
  unfold Zc1 J4
  with_reducible repeat' (first | exact Le.refl _ | apply Le.bind | intro _)

noncomputable def Jz (x : salvage_finder) (i : Int) (x3 : Int) (out4 : List Int) (p : Int) : Option (((List Int) × Int) ⊕ ((List Int))) :=
  if ((decide ((-192) < p)) && (decide (p < (x.h_.length : Int)))) = true then
  (((J7 x p).bind fun y =>
  if (!decide (y = i)) = true then
  some (.inl out4)
  else
  (idx x.certain y).bind fun x4 =>
  (Zc1 (i64 (x4.At - p))).bind fun y2 =>
  if (decide (192 ≤ y2)) = true then
  (app out4 ([p] : List Int)).bind fun l =>
  some (.inr l)
  else
  some (.inr out4)) : Option (((List Int)) ⊕ ((List Int)))).bind (Sum.elim (fun q' => some (.inr q')) (t1 fun (out5 : List Int) =>
  some (.inl (out5, (i64 (p + x3))))))
  else
  some (.inr out4)
theorem Zec (x : salvage_finder) (i : Int) (x3 : Int) (out4 : List Int) (p : Int) : Le (Jz x i x3 out4 p) (Qy x i x3 out4 p) := by
  unfold Jz Qy
  with_reducible repeat' (first | exact Le.refl _ | apply Le.bind | apply Le.ite | apply Le.t1 | apply Le.elim | apply ZeD | apply ZfP | intro _)

noncomputable def JC (x : salvage_finder) (i : Int) (x2 : api_Found) (out2 : List Int) (i2 : Int) : Option (((List Int) × Int) ⊕ ((List Int))) :=
  if (decide (i2 < (([(-194), 194] : List Int).length : Int))) = true then
  (((idx ([(-194), 194] : List Int) i2).bind fun x3 =>
  Xw (t2 (Jz x i x3)) (out2, (i64 (x2.At + x3)))) : Option (((List Int)))).bind (t1 fun (out3 : List Int) =>
  some (.inl (out3, (i64 (i2 + 1)))))
  else
  some (.inr out2)
theorem Zeb (x : salvage_finder) (i : Int) (x2 : api_Found) (out2 : List Int) (i2 : Int) : Le (JC x i x2 out2 i2) (QB x i x2 out2 i2) := by
  unfold JC QB
  with_reducible repeat' (first | exact Le.refl _ | apply Le.bind | apply Le.ite | apply Le.loop | apply Le.t1 | apply Le.t2 | apply Zec | intro _)

noncomputable def Zax (x : salvage_finder) (i : Int) : Option (List Int) :=
  (idx x.certain i).bind fun x2 =>
  ((Xw (t2 (JC x i x2)) ([], 0)) : Option (((List Int)))).bind (t1 fun (out : List Int) =>
  some out)
theorem Ze4 (x : salvage_finder) (i : Int) : Le (Zax x i) (QE x i) := by
  unfold Zax QE
  with_reducible repeat' (first | exact Le.refl _ | apply Le.bind | apply Le.loop | apply Le.t1 | apply Le.t2 | apply Zeb | intro _)

noncomputable def ZbQ (h_ : List Int) (at_ : Int) (f2 : Vector Int 64) (whole2 : Vector Bool 64) (i : Int) : Option (((Vector Int 64) × (Vector Bool 64) × Int) ⊕ ((Vector Int 64) × (Vector Bool 64))) :=
  if (decide (i < 64)) = true then
  if ((decide (0 ≤ (i64 (at_ + (i64 (3 * i)))))) && (decide ((i64 ((i64 (at_ + (i64 (3 * i)))) + 3)) ≤ (h_.length : Int)))) = true then
  (slc h_ (i64 (at_ + (i64 (3 * i)))) (i64 ((i64 (at_ + (i64 (3 * i)))) + 3))).bind fun l =>
  (Zak l).bind fun y =>
  (ZA f2 i).bind fun x =>
  (ZA whole2 i).bind fun x2 =>
  some (.inl ((Qp f2 i y), (Qp whole2 i true), (i64 (i + 1))))
  else
  some (.inl (f2, whole2, (i64 (i + 1))))
  else
  some (.inr (f2, whole2))
theorem Zgs (h_ : List Int) (at_ : Int) (f2 : Vector Int 64) (whole2 : Vector Bool 64) (i : Int) : Le (ZbQ h_ at_ f2 whole2 i) (Z6 h_ at_ f2 whole2 i) := by
  unfold ZbQ Z6
  with_reducible repeat' (first | exact Le.refl _ | apply Le.bind | apply Le.ite | apply ZcE | intro _)

noncomputable def Zdd (h_ : List Int) (at_ : Int) : Option ((Vector Int 64) × (Vector Bool 64)) :=
  ((Xw (t3 (ZbQ h_ at_)) ((Vector.replicate 64 0), (Vector.replicate 64 false), 0)) : Option (((Vector Int 64) × (Vector Bool 64)))).bind (t2 fun (f : Vector Int 64) (whole : Vector Bool 64) =>
  some (f, whole))
theorem Zix (h_ : List Int) (at_ : Int) : Le (Zdd h_ at_) (Xg h_ at_) := by
  unfold Zdd Xg
  with_reducible repeat' (first | exact Le.refl _ | apply Le.bind | apply Le.loop | apply Le.t2 | apply Le.t3 | apply Zgs | intro _)

noncomputable def ZeO (f : Vector Int 64) (whole : Vector Bool 64) : Option (Int × Bool) :=
  (ZA whole 0).bind fun x =>
  (gd ((!x) == false) false (ZA whole 1)).bind fun x2 =>
  (gd (((!x) || (!x2)) == false) false (ZA whole 2)).bind fun x3 =>
  if (((!x) || (!x2)) || (!x3)) = true then
  some (0, false)
  else
  (Zbn f).bind fun y =>
  (ZcN y.1).bind fun y2 =>
  (gd (y.2 == true) 0 (ZA f 0)).bind fun x4 =>
  some (y.1, (y.2 && (decide (x4 = (u16 y2.1)))))
theorem ZkG (f : Vector Int 64) (whole : Vector Bool 64) : Le (ZeO f whole) (Zbx f whole) := by
  unfold ZeO Zbx
  with_reducible repeat' (first | exact Le.refl _ | apply Le.bind | apply Le.ite | apply Le.gd | apply ZdP | apply ZeS | intro _)

noncomputable def JK (x : salvage_finder) (i : Int) (place : Int) (best2 : Int) (least : Int) (i2 : Int) : Option ((Int × Int × Int) ⊕ (Int)) :=
  if (decide (i2 < (x.certain.length : Int))) = true then
  (idx x.certain i2).bind fun x2 =>
  (gd ((decide (i2 = i)) == false) (api_Found.mk 0 (Vector.replicate 64 0)) (idx x.certain i)).bind fun x3 =>
  (gd ((decide (i2 = i)) == false) 0 (rem (i64 (x2.At - x3.At)) 194)).bind fun q =>
  if ((decide (i2 = i)) || (!decide (q = 0))) = true then
  some (.inl (best2, least, (i64 (i2 + 1))))
  else
  (Zc1 (i64 (x2.At - place))).bind fun y =>
  if ((decide (best2 < 0)) || (decide (y < least))) = true then
  some (.inl (i2, y, (i64 (i2 + 1))))
  else
  some (.inl (best2, least, (i64 (i2 + 1))))
  else
  some (.inr best2)
theorem Zek (x : salvage_finder) (i : Int) (place : Int) (best2 : Int) (least : Int) (i2 : Int) : Le (JK x i place best2 least i2) (QH x i place best2 least i2) := by
  unfold JK QH
  with_reducible repeat' (first | exact Le.refl _ | apply Le.bind | apply Le.ite | apply Le.gd | apply ZfP | intro _)

noncomputable def ZaQ (x : salvage_finder) (i : Int) (place : Int) : Option Int :=
  ((Xw (t3 (JK x i place)) ((-1), 0, 0)) : Option ((Int))).bind (t1 fun (best : Int) =>
  some best)
theorem Zfg (x : salvage_finder) (i : Int) (place : Int) : Le (ZaQ x i place) (QM x i place) := by
  unfold ZaQ QM
  with_reducible repeat' (first | exact Le.refl _ | apply Le.bind | apply Le.loop | apply Le.t1 | apply Le.t3 | apply Zek | intro _)

noncomputable def Zdn (n : Int) (low : Int) (high : Int) : Option Bool :=
  some ((decide (low ≤ n)) && (decide (n ≤ high)))
theorem ZiE (n : Int) (low : Int) (high : Int) : Le (Zdn n low high) (Zar n low high) := by
  unfold Zdn Zar
  with_reducible repeat' (first | exact Le.refl _ | apply Le.bind | intro _)

noncomputable def Zap (x : salvage_finder) (i : Int) (place : Int) (f : Vector Int 64) (whole : Vector Bool 64) : Option (Int × Bool) :=
  (ZeO f whole).bind fun y =>
  if y.2 = true then
  some (y.1, true)
  else
  (ZaQ x i place).bind fun y2 =>
  if (decide (y2 < 0)) = true then
  some (0, false)
  else
  (idx x.certain i).bind fun x2 =>
  (quo .i64 (i64 (place - x2.At)) 194).bind fun q =>
  (idx x.certain y2).bind fun x3 =>
  (idx x.certain i).bind fun x4 =>
  (quo .i64 (i64 (x3.At - x4.At)) 194).bind fun q2 =>
  (idx x.numbers y2).bind fun x5 =>
  (idx x.numbers i).bind fun x6 =>
  (rem (i64 (x5 - x6)) q2).bind fun q3 =>
  (gd ((!decide (q3 = 0)) == false) 0 (quo .i64 (i64 (x5 - x6)) q2)).bind fun q4 =>
  if ((!decide (q3 = 0)) || (decide (q4 ≤ 0))) = true then
  some (0, false)
  else
  (idx x.numbers i).bind fun x7 =>
  (quo .i64 (i64 (x5 - x6)) q2).bind fun q5 =>
  (Zdn (i64 (x7 + (i64 (q * q5)))) 0 4194303).bind fun y3 =>
  some ((i64 (x7 + (i64 (q * q5)))), y3)
theorem ZeU (x : salvage_finder) (i : Int) (place : Int) (f : Vector Int 64) (whole : Vector Bool 64) : Le (Zap x i place f whole) (QS x i place f whole) := by
  unfold Zap QS
  with_reducible repeat' (first | exact Le.refl _ | apply Le.bind | apply Le.ite | apply Le.gd | apply ZkG | apply Zfg | apply ZiE | intro _)

noncomputable def ZdD (w : Int) : Option Bool :=
  (Zbv w).bind fun y =>
  some y
theorem ZlP (w : Int) : Le (ZdD w) (Zct w) := by
  unfold ZdD Zct
  with_reducible repeat' (first | exact Le.refl _ | apply Le.bind | apply Zd7 | intro _)

noncomputable def Zbw (w : Int) (i : Int) (number : Int) : Option Bool :=
  if (decide (i = 0)) = true then
  (ZcN number).bind fun y =>
  some (decide (w = (u16 y.1)))
  else
  if (decide (i = 1)) = true then
  (ZdD w).bind fun y2 =>
  some (y2 && (decide ((i64 (Jq .u16 w 2047)) = (Jq .i64 number 2047))))
  else
  if (decide (i = 2)) = true then
  (ZdD w).bind fun y3 =>
  (gd (y3 == true) 0 (shr .i64 number 11)).bind fun q =>
  some (y3 && (decide ((i64 (Jq .u16 w 2047)) = q)))
  else
  (ZdD w).bind fun y4 =>
  some y4
theorem Zf5 (w : Int) (i : Int) (number : Int) : Le (Zbw w i number) (Xm w i number) := by
  unfold Zbw Xm
  with_reducible repeat' (first | exact Le.refl _ | apply Le.bind | apply Le.ite | apply Le.gd | apply ZeS | apply ZlP | intro _)

noncomputable def Ju (y : (Vector Int 64) × (Vector Bool 64)) (y2 : Int × Bool) (r_2 : api_Rest) (i2 : Int) : Option ((api_Rest × Int) ⊕ (api_Rest)) :=
  if (decide (i2 < 64)) = true then
  (ZA y.1 i2).bind fun x2 =>
  (ZA y.2 i2).bind fun x3 =>
  (gd (x3 == true) false (Zbw x2 i2 y2.1)).bind fun y3 =>
  if (x3 && y3) = true then
  (ZA r_2.Frame i2).bind fun x4 =>
  (ZA r_2.States i2).bind fun x5 =>
  some (.inl ((api_Rest.mk r_2.Number (Qp r_2.Frame i2 x2) (Qp r_2.States i2 1) r_2.Sound r_2.Copies r_2.Conflict), (i64 (i2 + 1))))
  else
  some (.inl (r_2, (i64 (i2 + 1))))
  else
  some (.inr r_2)
theorem Zd4 (y : (Vector Int 64) × (Vector Bool 64)) (y2 : Int × Bool) (r_2 : api_Rest) (i2 : Int) : Le (Ju y y2 r_2 i2) (Qn y y2 r_2 i2) := by
  unfold Ju Qn
  with_reducible repeat' (first | exact Le.refl _ | apply Le.bind | apply Le.ite | apply Le.gd | apply Zf5 | intro _)

noncomputable def X1 (s : List Int) (f : Int → Option Bool) (i : Int) : Option ((Int) ⊕ (Int) ⊕ (Unit)) :=
  if (decide (i < (s.length : Int))) = true then
  (idx s i).bind fun x =>
  (f x).bind fun y =>
  if y = true then
  some (.inr (.inl i))
  else
  some (.inl (i64 (i + 1)))
  else
  some (.inr (.inr ()))
theorem Zdl (s : List Int) (f : Int → Option Bool) (i : Int) (f' : Int → Option Bool) (h_f : ∀ z0, Le (f z0) (f' z0)) : Le (X1 s f i) (Z9 s f' i) := by
  unfold X1 Z9
  with_reducible repeat' (first | exact Le.refl _ | apply Le.bind | apply Le.ite | apply h_f | intro _)

noncomputable def JA (s : List Int) (f : Int → Option Bool) : Option Int :=
  ((Xw (t1 (X1 s f)) 0) : Option ((Int) ⊕ (Unit))).bind (Sum.elim (fun q' => some q') (t0 (some (-1))))
theorem Zd9 (s : List Int) (f : Int → Option Bool) (f' : Int → Option Bool) (h_f : ∀ z0, Le (f z0) (f' z0)) : Le (JA s f) (QQ s f') := by
  unfold JA QQ
  with_reducible repeat' (first | exact Le.refl _ | apply Le.bind | apply Le.loop | apply Le.t0 | apply Le.t1 | apply Le.elim | apply Zdl | apply h_f | intro _)

noncomputable def Xd (s : List Int) (f : Int → Option Bool) : Option Bool :=
  (JA s f).bind fun y =>
  some (decide (0 ≤ y))
theorem Zal (s : List Int) (f : Int → Option Bool) (f' : Int → Option Bool) (h_f : ∀ z0, Le (f z0) (f' z0)) : Le (Xd s f) (Qa s f') := by
  unfold Xd Qa
  with_reducible repeat' (first | exact Le.refl _ | apply Le.bind | apply Zd9 | apply h_f | intro _)

noncomputable def ZdU (s : Int) (c0 : Int) : Option Bool :=
  some (!decide (s = c0))
theorem ZiQ (s : Int) (c0 : Int) : Le (ZdU s c0) (Za0 s c0) := by
  unfold ZdU Za0
  with_reducible repeat' (first | exact Le.refl _ | apply Le.bind | intro _)

noncomputable def Zdt (r_ : api_Rest) (state : Int) : Option Bool :=
  (slc r_.States.toList 0 (64 : Int)).bind fun l =>
  (Xd l (fun z0 => ZdU z0 state)).bind fun y =>
  some (!y)
theorem ZgF (r_ : api_Rest) (state : Int) : Le (Zdt r_ state) (Jj r_ state) := by
  unfold Zdt Jj
  with_reducible repeat' (first | exact Le.refl _ | apply Le.bind | apply Zal | apply ZiQ | intro _)

noncomputable def Zaw (x : salvage_finder) (i : Int) (place : Int) : Option (api_Rest × Bool) :=
  (Zdd x.h_ place).bind fun y =>
  (Zap x i place y.1 y.2).bind fun y2 =>
  if (!y2.2) = true then
  some ((api_Rest.mk 0 (Vector.replicate 64 0) (Vector.replicate 64 0) false 0 false), false)
  else
  ((Xw (t2 (Ju y y2)) ((api_Rest.mk y2.1 (Vector.replicate 64 0) (Vector.replicate 64 0) false 0 false), 0)) : Option ((api_Rest))).bind (t1 fun (r_ : api_Rest) =>
  (Zdt r_ 0).bind fun y4 =>
  some (r_, (!y4)))
theorem ZeT (x : salvage_finder) (i : Int) (place : Int) : Le (Zaw x i place) (Qr x i place) := by
  unfold Zaw Qr
  with_reducible repeat' (first | exact Le.refl _ | apply Le.bind | apply Le.ite | apply Le.loop | apply Le.t1 | apply Le.t2 | apply Zix | apply ZeU | apply Zd4 | apply ZgF | intro _)

noncomputable def Zci (y : salvage_finder) (i : Int) (y3 : (List Int)) (l5 : List api_Rest) (i2 : Int) : Option (((List api_Rest) × Int) ⊕ ((List api_Rest))) :=
  if (decide (i2 < (y3.length : Int))) = true then
  (idx y3 i2).bind fun x3 =>
  (Zaw y i x3).bind fun y4 =>
  if y4.2 = true then
  (app l5 ([y4.1] : List api_Rest)).bind fun l6 =>
  some (.inl (l6, (i64 (i2 + 1))))
  else
  some (.inl (l5, (i64 (i2 + 1))))
  else
  some (.inr l5)
theorem Zha (y : salvage_finder) (i : Int) (y3 : (List Int)) (l5 : List api_Rest) (i2 : Int) : Le (Zci y i y3 l5 i2) (Xx y i y3 l5 i2) := by
  unfold Zci Xx
  with_reducible repeat' (first | exact Le.refl _ | apply Le.bind | apply Le.ite | apply ZeT | intro _)

noncomputable def Zcj (y : salvage_finder) (l2 : List api_Rest) (i : Int) : Option (((List api_Rest) × Int) ⊕ ((List api_Rest))) :=
  if (decide (i < (y.certain.length : Int))) = true then
  (((idx y.certain i).bind fun x =>
  (idx y.numbers i).bind fun x2 =>
  (Zau 3).bind fun y2 =>
  (app l2 ([(api_Rest.mk x2 x.Frame y2 true 1 false)] : List api_Rest)).bind fun l4 =>
  (Zax y i).bind fun y3 =>
  Xw (t2 (Zci y i y3)) (l4, 0)) : Option (((List api_Rest)))).bind (t1 fun (l3 : List api_Rest) =>
  some (.inl (l3, (i64 (i + 1)))))
  else
  some (.inr l2)
theorem Zhd (y : salvage_finder) (l2 : List api_Rest) (i : Int) : Le (Zcj y l2 i) (Xs y l2 i) := by
  unfold Zcj Xs
  with_reducible repeat' (first | exact Le.refl _ | apply Le.bind | apply Le.ite | apply Le.loop | apply Le.t1 | apply Le.t2 | apply ZcC | apply Ze4 | apply Zha | intro _)

noncomputable def Zbs (l : List api_Rest) (groups2 : List (Int × (List api_Rest))) (numbers2 : List Int) (i : Int) : Option (((List (Int × (List api_Rest))) × (List Int) × Int) ⊕ ((List (Int × (List api_Rest))) × (List Int))) :=
  if (decide (i < (l.length : Int))) = true then
  (((idx l i).bind fun x =>
  (((some (ZiP (ZbU kqI groups2 x.Number))).bind (Sum.elim (fun z =>
  if true = true then
  (app numbers2 ([x.Number] : List Int)).bind fun l2 =>
  some l2
  else
  none) (fun z =>
  (ck (decide (0 < z.length))).bind fun u =>
  if false = true then
  none
  else
  some numbers2))) : Option (((List Int)))).bind (t1 fun (numbers4 : List Int) =>
  (some (ZiP (ZbU kqI groups2 x.Number))).bind (Sum.elim (fun z2 =>
  (app [] ([x] : List api_Rest)).bind fun l3 =>
  some ((Z0 kqI groups2 x.Number l3), numbers4)) (fun z2 =>
  (app z2 ([x] : List api_Rest)).bind fun l4 =>
  some ((Z0 kqI groups2 x.Number l4), numbers4))))) : Option (((List (Int × (List api_Rest))) × (List Int)))).bind (t2 fun (groups3 : List (Int × (List api_Rest))) (numbers3 : List Int) =>
  some (.inl (groups3, numbers3, (i64 (i + 1)))))
  else
  some (.inr (groups2, numbers2))
theorem Zf6 (l : List api_Rest) (groups2 : List (Int × (List api_Rest))) (numbers2 : List Int) (i : Int) : Le (Zbs l groups2 numbers2 i) (Q6 l groups2 numbers2 i) := by
  unfold Zbs Q6
  with_reducible repeat' (first | exact Le.refl _ | apply Le.bind | apply Le.ite | apply Le.t1 | apply Le.t2 | apply Le.elim | intro _)

noncomputable def Zcl (l : List api_Rest) (Copies2 : Int) (i : Int) : Option ((Int × Int) ⊕ (Int)) :=
  if (decide (i < (l.length : Int))) = true then
  (idx l i).bind fun x2 =>
  some (.inl ((i64 (Copies2 + x2.Copies)), (i64 (i + 1))))
  else
  some (.inr Copies2)
theorem Zg7 (l : List api_Rest) (Copies2 : Int) (i : Int) : Le (Zcl l Copies2 i) (Xu l Copies2 i) := by
  unfold Zcl Xu
  with_reducible repeat' (first | exact Le.refl _ | apply Le.bind | apply Le.ite | intro _)

noncomputable def QX (s : List api_Rest) (f : api_Rest → Option Bool) (i : Int) : Option ((Int) ⊕ (Int) ⊕ (Unit)) :=
  if (decide (i < (s.length : Int))) = true then
  (idx s i).bind fun x =>
  (f x).bind fun y =>
  if y = true then
  some (.inr (.inl i))
  else
  some (.inl (i64 (i + 1)))
  else
  some (.inr (.inr ()))
theorem Za1 (s : List api_Rest) (f : api_Rest → Option Bool) (i : Int) (f' : api_Rest → Option Bool) (h_f : ∀ z0, Le (f z0) (f' z0)) : Le (QX s f i) (ZQ s f' i) := by
  unfold QX ZQ
  with_reducible repeat' (first | exact Le.refl _ | apply Le.bind | apply Le.ite | apply h_f | intro _)

noncomputable def Xc (s : List api_Rest) (f : api_Rest → Option Bool) : Option Int :=
  ((Xw (t1 (QX s f)) 0) : Option ((Int) ⊕ (Unit))).bind (Sum.elim (fun q' => some q') (t0 (some (-1))))
theorem ZbI (s : List api_Rest) (f : api_Rest → Option Bool) (f' : api_Rest → Option Bool) (h_f : ∀ z0, Le (f z0) (f' z0)) : Le (Xc s f) (Qb s f') := by
  unfold Xc Qb
  with_reducible repeat' (first | exact Le.refl _ | apply Le.bind | apply Le.loop | apply Le.t0 | apply Le.t1 | apply Le.elim | apply Za1 | apply h_f | intro _)

noncomputable def QW (s : List api_Rest) (f : api_Rest → Option Bool) : Option Bool :=
  (Xc s f).bind fun y =>
  some (decide (0 ≤ y))
theorem Za3 (s : List api_Rest) (f : api_Rest → Option Bool) (f' : api_Rest → Option Bool) (h_f : ∀ z0, Le (f z0) (f' z0)) : Le (QW s f) (ZW s f') := by
  unfold QW ZW
  with_reducible repeat' (first | exact Le.refl _ | apply Le.bind | apply ZbI | apply h_f | intro _)

noncomputable def ZcK (r_ : api_Rest) : Option Bool :=
  some r_.Conflict
theorem Zhm (r_ : api_Rest) : Le (ZcK r_) (JN r_) := by
  unfold ZcK JN
  with_reducible repeat' (first | exact Le.refl _ | apply Le.bind | intro _)

noncomputable def Zbz (o2 : api_Rest) (x : api_Rest) (States : Vector Int 64) (i2 : Int) : Option (((Vector Int 64) × Int) ⊕ (api_Rest)) :=
  if (decide (i2 < 64)) = true then
  (ZA x.States i2).bind fun x2 =>
  (ZA States i2).bind fun x3 =>
  (ZA States i2).bind fun x4 =>
  some (.inl ((Qp States i2 (max x3 x2)), (i64 (i2 + 1))))
  else
  some (.inr (api_Rest.mk o2.Number x.Frame States true o2.Copies o2.Conflict))
theorem Zf3 (o2 : api_Rest) (x : api_Rest) (States : Vector Int 64) (i2 : Int) : Le (Zbz o2 x States i2) (Qx o2 x States i2) := by
  unfold Zbz Qx
  with_reducible repeat' (first | exact Le.refl _ | apply Le.bind | apply Le.ite | intro _)

noncomputable def Zbc (l : List api_Rest) (o2 : api_Rest) (i : Int) : Option ((api_Rest × Int) ⊕ (Bool × api_Rest) ⊕ (api_Rest)) :=
  if (decide (i < (l.length : Int))) = true then
  (((idx l i).bind fun x =>
  if (!x.Sound) = true then
  some (.inr o2)
  else
  if (o2.Sound && (!(decide (o2.Frame = x.Frame)))) = true then
  some (.inl (false, o2))
  else
  (Xw (t2 (Zbz o2 x)) (o2.States, 0)).bind (fun q' => some (.inr q'))) : Option ((Bool × api_Rest) ⊕ (api_Rest))).bind (Sum.elim (fun q' => some (.inr (.inl q'))) (t1 fun (o3 : api_Rest) =>
  some (.inl (o3, (i64 (i + 1))))))
  else
  some (.inr (.inr o2))
theorem Zf0 (l : List api_Rest) (o2 : api_Rest) (i : Int) : Le (Zbc l o2 i) (Xo l o2 i) := by
  unfold Zbc Xo
  with_reducible repeat' (first | exact Le.refl _ | apply Le.bind | apply Le.ite | apply Le.loop | apply Le.t1 | apply Le.t2 | apply Le.elim | apply Zf3 | intro _)

noncomputable def ZcM (out : api_Rest) (l : List api_Rest) : Option (Bool × api_Rest) :=
  ((Xw (t2 (Zbc l)) (out, 0)) : Option ((Bool × api_Rest) ⊕ (api_Rest))).bind (Sum.elim (fun q' => some q') (t1 fun (o : api_Rest) =>
  some (true, o)))
theorem Zhn (out : api_Rest) (l : List api_Rest) : Le (ZcM out l) (Ja out l) := by
  unfold ZcM Ja
  with_reducible repeat' (first | exact Le.refl _ | apply Le.bind | apply Le.loop | apply Le.t1 | apply Le.t2 | apply Le.elim | apply Zf0 | intro _)

noncomputable def Zbt (l : List api_Rest) (i : Int) (o4 : api_Rest) (differ2 : Bool) (i2 : Int) : Option ((api_Rest × Bool × Int) ⊕ (api_Rest × Bool)) :=
  if (decide (i2 < (l.length : Int))) = true then
  (idx l i2).bind fun x =>
  (ZA x.States i).bind fun x2 =>
  if (decide (x2 = 0)) = true then
  some (.inl (o4, differ2, (i64 (i2 + 1))))
  else
  (gd (differ2 == false) 0 (ZA o4.States i)).bind fun x3 =>
  (gd ((differ2 == false) && ((!decide (x3 = 0)) == true)) 0 (ZA o4.Frame i)).bind fun x4 =>
  (gd ((differ2 == false) && ((!decide (x3 = 0)) == true)) 0 (ZA x.Frame i)).bind fun x5 =>
  (ZA o4.States i).bind fun x6 =>
  (ZA x.Frame i).bind fun x7 =>
  (ZA o4.Frame i).bind fun x8 =>
  some (.inl ((api_Rest.mk o4.Number (Qp o4.Frame i x7) (Qp o4.States i 1) o4.Sound o4.Copies o4.Conflict), (differ2 || ((!decide (x3 = 0)) && (!decide (x4 = x5)))), (i64 (i2 + 1))))
  else
  some (.inr (o4, differ2))
theorem ZfW (l : List api_Rest) (i : Int) (o4 : api_Rest) (differ2 : Bool) (i2 : Int) : Le (Zbt l i o4 differ2 i2) (Q7 l i o4 differ2 i2) := by
  unfold Zbt Q7
  with_reducible repeat' (first | exact Le.refl _ | apply Le.bind | apply Le.ite | apply Le.gd | intro _)

noncomputable def Zbq (l : List api_Rest) (o : api_Rest) (i : Int) : Option ((api_Rest × Int) ⊕ (api_Rest)) :=
  if (decide (i < 64)) = true then
  ((((Xw (t3 (Zbt l i)) (o, false, 0)) : Option ((api_Rest × Bool))).bind (t2 fun (o3 : api_Rest) (differ : Bool) =>
  if differ = true then
  (ZA o3.States i).bind fun x9 =>
  (ZA o3.Frame i).bind fun x10 =>
  some (api_Rest.mk o3.Number (Qp o3.Frame i 0) (Qp o3.States i 0) o3.Sound o3.Copies o3.Conflict)
  else
  some o3)) : Option ((api_Rest))).bind (t1 fun (o2 : api_Rest) =>
  some (.inl (o2, (i64 (i + 1)))))
  else
  some (.inr o)
theorem ZfT (l : List api_Rest) (o : api_Rest) (i : Int) : Le (Zbq l o i) (Xr l o i) := by
  unfold Zbq Xr
  with_reducible repeat' (first | exact Le.refl _ | apply Le.bind | apply Le.ite | apply Le.loop | apply Le.t1 | apply Le.t2 | apply Le.t3 | apply ZfW | intro _)

noncomputable def ZcO (out : api_Rest) (l : List api_Rest) : Option api_Rest :=
  Xw (t2 (Zbq l)) (out, 0)
theorem Zht (out : api_Rest) (l : List api_Rest) : Le (ZcO out l) (JO out l) := by
  unfold ZcO JO
  with_reducible repeat' (first | exact Le.refl _ | apply Le.bind | apply Le.loop | apply Le.t2 | apply ZfT | intro _)

noncomputable def Zdi (s : Int) (c0 : Int) (c1 : Int) : Option Bool :=
  some ((decide (s = c0)) || (decide (s = c1)))
theorem Zh1 (s : Int) (c0 : Int) (c1 : Int) : Le (Zdi s c0 c1) (Zay s c0 c1) := by
  unfold Zdi Zay
  with_reducible repeat' (first | exact Le.refl _ | apply Le.bind | intro _)

noncomputable def Zem (r_ : api_Rest) (a : Int) (b : Int) : Option Bool :=
  (slc r_.States.toList 0 (64 : Int)).bind fun l =>
  (Xd l (fun z0 => Zdi z0 a b)).bind fun y =>
  some y
theorem Zjw (r_ : api_Rest) (a : Int) (b : Int) : Le (Zem r_ a b) (ZaJ r_ a b) := by
  unfold Zem ZaJ
  with_reducible repeat' (first | exact Le.refl _ | apply Le.bind | apply Zal | apply Zh1 | intro _)

noncomputable def Za5 (f : Vector Int 64) (number : Int) : Option Bool :=
  (Zbn f).bind fun y =>
  (Zds f).bind fun y2 =>
  some (y2 && (decide (y.1 = number)))
theorem Zex (f : Vector Int 64) (number : Int) : Le (Za5 f number) (Xj f number) := by
  unfold Za5 Xj
  with_reducible repeat' (first | exact Le.refl _ | apply Le.bind | apply ZdP | apply ZgN | intro _)

noncomputable def Zcb (l : List api_Rest) : Option api_Rest :=
  (idx l 0).bind fun x =>
  ((Xw (t2 (Zcl l)) (0, 0)) : Option ((Int))).bind (t1 fun (Copies : Int) =>
  (QW l (fun z0 => ZcK z0)).bind fun y =>
  (ZcM (api_Rest.mk x.Number (Vector.replicate 64 0) (Vector.replicate 64 0) false Copies false) l).bind fun y2 =>
  if (y || (!y2.1)) = true then
  some (api_Rest.mk y2.2.Number (Vector.replicate 64 0) (Vector.replicate 64 0) false y2.2.Copies true)
  else
  ((if (!y2.2.Sound) = true then
  (ZcO y2.2 l).bind fun y3 =>
  (Zem y3 0 0).bind fun y4 =>
  (gd ((!y4) == true) false (Za5 y3.Frame y3.Number)).bind fun y5 =>
  if ((!y4) && y5) = true then
  (Zau 3).bind fun y6 =>
  some (api_Rest.mk y3.Number y3.Frame y6 true 1 y3.Conflict)
  else
  some y3
  else
  some y2.2) : Option ((api_Rest))).bind (t1 fun (out : api_Rest) =>
  (gd (out.Sound == true) false (Zdt out 3)).bind fun y7 =>
  if (out.Sound && y7) = true then
  some (api_Rest.mk out.Number out.Frame out.States out.Sound (max out.Copies 1) out.Conflict)
  else
  some out))
theorem ZiU (l : List api_Rest) : Le (Zcb l) (XX l) := by
  unfold Zcb XX
  with_reducible repeat' (first | exact Le.refl _ | apply Le.bind | apply Le.ite | apply Le.gd | apply Le.loop | apply Le.t1 | apply Le.t2 | apply Zg7 | apply Za3 | apply Zhm | apply Zhn | apply Zht | apply Zjw | apply Zex | apply ZcC | apply ZgF | intro _)

noncomputable def Zbu (groups : List (Int × (List api_Rest))) (y : List Int) (out2 : List api_Rest) (i2 : Int) : Option (((List api_Rest) × Int) ⊕ ((List api_Rest))) :=
  if (decide (i2 < (y.length : Int))) = true then
  (idx y i2).bind fun x2 =>
  (some (ZiP (ZbU kqI groups x2))).bind (Sum.elim (fun z3 =>
  (Zcb []).bind fun y2 =>
  (app out2 ([y2] : List api_Rest)).bind fun l5 =>
  some (.inl (l5, (i64 (i2 + 1))))) (fun z3 =>
  (Zcb z3).bind fun y3 =>
  (app out2 ([y3] : List api_Rest)).bind fun l6 =>
  some (.inl (l6, (i64 (i2 + 1))))))
  else
  some (.inr out2)
theorem ZfX (groups : List (Int × (List api_Rest))) (y : List Int) (out2 : List api_Rest) (i2 : Int) : Le (Zbu groups y out2 i2) (Q0 groups y out2 i2) := by
  unfold Zbu Q0
  with_reducible repeat' (first | exact Le.refl _ | apply Le.bind | apply Le.ite | apply Le.elim | apply ZiU | intro _)

noncomputable def Za9 (l : List api_Rest) : Option (List api_Rest) :=
  ((Xw (t3 (Zbs l)) (([] : List (Int × (List api_Rest))), [], 0)) : Option (((List (Int × (List api_Rest))) × (List Int)))).bind (t2 fun (groups : List (Int × (List api_Rest))) (numbers : List Int) =>
  (ZqA numbers).bind fun y =>
  ((Xw (t2 (Zbu groups y)) ([], 0)) : Option (((List api_Rest)))).bind (t1 fun (out : List api_Rest) =>
  some out))
theorem Zeu (l : List api_Rest) : Le (Za9 l) (QO l) := by
  unfold Za9 QO
  with_reducible repeat' (first | exact Le.refl _ | apply Le.bind | apply Le.loop | apply Le.t1 | apply Le.t2 | apply Le.t3 | apply Zf6 | apply ZfX | apply Zoe | intro _)

noncomputable def ZdN (h_ : List Int) : Option (List api_Rest) :=
  (ZbP h_).bind fun y =>
  ((Xw (t2 (Zcj y)) ([], 0)) : Option (((List api_Rest)))).bind (t1 fun (l : List api_Rest) =>
  (Za9 l).bind fun y5 =>
  some y5)
theorem ZiW (h_ : List Int) : Le (ZdN h_) (XY h_) := by
  unfold ZdN XY
  with_reducible repeat' (first | exact Le.refl _ | apply Le.bind | apply Le.loop | apply Le.t1 | apply Le.t2 | apply ZgR | apply Zhd | apply Zeu | intro _)

noncomputable def Zbk (l : List api_Piece) (parts2 : List api_Rest) (i2 : Int) : Option (((List api_Rest) × Int) ⊕ ((List api_Rest))) :=
  if (decide (i2 < (l.length : Int))) = true then
  (idx l i2).bind fun x2 =>
  (Zdh x2).bind fun y2 =>
  (ZdN y2).bind fun y3 =>
  (app parts2 y3).bind fun l2 =>
  some (.inl (l2, (i64 (i2 + 1))))
  else
  some (.inr parts2)
theorem ZfY (l : List api_Piece) (parts2 : List api_Rest) (i2 : Int) : Le (Zbk l parts2 i2) (Q5 l parts2 i2) := by
  unfold Zbk Q5
  with_reducible repeat' (first | exact Le.refl _ | apply Le.bind | apply Le.ite | apply Ziv | apply ZiW | intro _)

noncomputable def ZbN (r_ : api_Rest) (lost2 : Int) (place2 : Int) (i : Int) : Option ((Int × Int × Int) ⊕ (Int × Int)) :=
  if (decide (i < 64)) = true then
  (ZA r_.States i).bind fun x =>
  if (decide (x = 0)) = true then
  some (.inl ((i64 (lost2 + 1)), i, (i64 (i + 1))))
  else
  some (.inl (lost2, place2, (i64 (i + 1))))
  else
  some (.inr (lost2, place2))
theorem Zgl (r_ : api_Rest) (lost2 : Int) (place2 : Int) (i : Int) : Le (ZbN r_ lost2 place2 i) (Xe r_ lost2 place2 i) := by
  unfold ZbN Xe
  with_reducible repeat' (first | exact Le.refl _ | apply Le.bind | apply Le.ite | intro _)

noncomputable def ZbJ (data : Int) : Option Int :=
  (Zbv (u16 data)).bind fun y =>
  if (!y) = true then
  some (bor .u16 (u16 data) 2048)
  else
  some (u16 data)
theorem ZkW (data : Int) : Le (ZbJ data) (Zaa data) := by
  unfold ZbJ Zaa
  with_reducible repeat' (first | exact Le.refl _ | apply Le.bind | apply Le.ite | apply Zd7 | intro _)

noncomputable def Zdf (f : Vector Int 64) (i : Int) : Option (Vector Int 64) :=
  ((if (decide (i = 0)) = true then
  (Zav f).bind fun y =>
  (rem y 4).bind fun q =>
  (ZA gv_frame_syncs q).bind fun x =>
  (ZA f 0).bind fun x2 =>
  some (Qp f 0 x)
  else
  if (decide (i = 61)) = true then
  (ZbV f).bind fun y2 =>
  (ZbJ y2).bind fun y3 =>
  (ZA f i).bind fun x3 =>
  some (Qp f i y3)
  else
  if (decide (i = 62)) = true then
  (ZaV f).bind fun y4 =>
  (shr .i64 y4 11).bind fun q2 =>
  (ZbJ q2).bind fun y5 =>
  (ZA f i).bind fun x4 =>
  some (Qp f i y5)
  else
  if (decide (i = 63)) = true then
  (ZaV f).bind fun y6 =>
  (ZbJ (Jq .i64 y6 2047)).bind fun y7 =>
  (ZA f i).bind fun x5 =>
  some (Qp f i y7)
  else
  (ZbV f).bind fun y8 =>
  (ZA f i).bind fun x6 =>
  (XZ x6).bind fun y9 =>
  (ZA f 61).bind fun x7 =>
  (XZ x7).bind fun y10 =>
  (ZbJ (ZcI .i64 (ZcI .i64 y8 y9) y10)).bind fun y11 =>
  (ZA f i).bind fun x8 =>
  some (Qp f i y11)) : Option (((Vector Int 64)))).bind (t1 fun (f2 : Vector Int 64) =>
  some f2)
theorem ZhV (f : Vector Int 64) (i : Int) : Le (Zdf f i) (Q4 f i) := by
  unfold Zdf Q4
  with_reducible repeat' (first | exact Le.refl _ | apply Le.bind | apply Le.ite | apply Le.t1 | apply ZcD | apply ZgI | apply ZkW | apply Zfb | apply Zdw | intro _)

noncomputable def Zdo (f : Vector Int 64) (i : Int) : Option ((Vector Int 64) × Bool) :=
  if ((decide (i < 0)) || (decide (64 ≤ i))) = true then
  some ((#v[0, 0, 0, 0, 0, 0, 0, 0, 0, 0, 0, 0, 0, 0, 0, 0, 0, 0, 0, 0, 0, 0, 0, 0, 0, 0, 0, 0, 0, 0, 0, 0, 0, 0, 0, 0, 0, 0, 0, 0, 0, 0, 0, 0, 0, 0, 0, 0, 0, 0, 0, 0, 0, 0, 0, 0, 0, 0, 0, 0, 0, 0, 0, 0] : Vector Int 64), false)
  else
  (ZA f i).bind fun x =>
  (Zd1 (Qp f i 0)).bind fun y =>
  if y = true then
  some ((#v[0, 0, 0, 0, 0, 0, 0, 0, 0, 0, 0, 0, 0, 0, 0, 0, 0, 0, 0, 0, 0, 0, 0, 0, 0, 0, 0, 0, 0, 0, 0, 0, 0, 0, 0, 0, 0, 0, 0, 0, 0, 0, 0, 0, 0, 0, 0, 0, 0, 0, 0, 0, 0, 0, 0, 0, 0, 0, 0, 0, 0, 0, 0, 0] : Vector Int 64), false)
  else
  (Zdf (Qp f i 0) i).bind fun y2 =>
  (Zdy y2).bind fun y3 =>
  if (!y3) = true then
  some ((#v[0, 0, 0, 0, 0, 0, 0, 0, 0, 0, 0, 0, 0, 0, 0, 0, 0, 0, 0, 0, 0, 0, 0, 0, 0, 0, 0, 0, 0, 0, 0, 0, 0, 0, 0, 0, 0, 0, 0, 0, 0, 0, 0, 0, 0, 0, 0, 0, 0, 0, 0, 0, 0, 0, 0, 0, 0, 0, 0, 0, 0, 0, 0, 0] : Vector Int 64), false)
  else
  some (y2, true)
theorem Zh7 (f : Vector Int 64) (i : Int) : Le (Zdo f i) (Jw f i) := by
  unfold Zdo Jw
  with_reducible repeat' (first | exact Le.refl _ | apply Le.bind | apply Le.ite | apply Zhk | apply ZhV | apply Zge | intro _)

noncomputable def Zdb (r_ : api_Rest) : Option api_Rest :=
  if (r_.Sound || r_.Conflict) = true then
  some r_
  else
  ((Xw (t3 (ZbN r_)) (0, 0, 0)) : Option ((Int × Int))).bind (t2 fun (lost : Int) (place : Int) =>
  if (!decide (lost = 1)) = true then
  some r_
  else
  (Zdo r_.Frame place).bind fun y =>
  (gd ((!y.2) == false) false (Za5 y.1 r_.Number)).bind fun y2 =>
  if ((!y.2) || (!y2)) = true then
  some r_
  else
  (Zau 3).bind fun y3 =>
  (ZA y3 place).bind fun x2 =>
  some (api_Rest.mk r_.Number y.1 (Qp y3 place 2) true 0 r_.Conflict))
theorem Zih (r_ : api_Rest) : Le (Zdb r_) (XE r_) := by
  unfold Zdb XE
  with_reducible repeat' (first | exact Le.refl _ | apply Le.bind | apply Le.ite | apply Le.gd | apply Le.loop | apply Le.t2 | apply Le.t3 | apply Zgl | apply Zh7 | apply Zex | apply ZcC | intro _)

noncomputable def Zbo (y4 : (List api_Rest)) (out2 : List api_Rest) (i3 : Int) : Option (((List api_Rest) × Int) ⊕ ((List api_Rest))) :=
  if (decide (i3 < (y4.length : Int))) = true then
  (idx out2 i3).bind fun x5 =>
  (Zdb x5).bind fun y5 =>
  (idx out2 i3).bind fun x6 =>
  some (.inl ((out2.set i3.toNat y5), (i64 (i3 + 1))))
  else
  some (.inr out2)
theorem Zf4 (y4 : (List api_Rest)) (out2 : List api_Rest) (i3 : Int) : Le (Zbo y4 out2 i3) (QZ y4 out2 i3) := by
  unfold Zbo QZ
  with_reducible repeat' (first | exact Le.refl _ | apply Le.bind | apply Le.ite | apply Zih | intro _)

noncomputable def ZcS (l : List api_Piece) : Option ((List api_Rest) × Int) :=
  if (decide (200 < (l.length : Int))) = true then
  some ([], 3)
  else
  ((Xw (t1 (Zbi l)) 0) : Option (((List api_Rest) × Int) ⊕ (Unit))).bind (Sum.elim (fun q' => some q') (t0 (((Xw (t2 (Zbk l)) ([], 0)) : Option (((List api_Rest)))).bind (t1 fun (parts : List api_Rest) =>
  (Za9 parts).bind fun y4 =>
  (gd ((decide (0 < (y4.length : Int))) == true) (api_Rest.mk 0 (Vector.replicate 64 0) (Vector.replicate 64 0) false 0 false) (idx y4 (i64 ((y4.length : Int) - 1)))).bind fun x3 =>
  (gd ((decide (0 < (y4.length : Int))) == true) (api_Rest.mk 0 (Vector.replicate 64 0) (Vector.replicate 64 0) false 0 false) (idx y4 0)).bind fun x4 =>
  if ((decide (0 < (y4.length : Int))) && (decide (100000 < (i64 (x3.Number - x4.Number))))) = true then
  some ([], 3)
  else
  ((Xw (t2 (Zbo y4)) (y4, 0)) : Option (((List api_Rest)))).bind (t1 fun (out : List api_Rest) =>
  some (out, 0))))))
theorem ZhJ (l : List api_Piece) : Le (ZcS l) (QF l) := by
  unfold ZcS QF
  with_reducible repeat' (first | exact Le.refl _ | apply Le.bind | apply Le.ite | apply Le.gd | apply Le.loop | apply Le.t0 | apply Le.t1 | apply Le.t2 | apply Le.elim | apply Zgb | apply ZfY | apply Zeu | apply Zf4 | intro _)

noncomputable def Ziq : Option Bool :=
  (mks 58 0).bind fun l =>
  (ZhE 9 l).bind fun y =>
  (Zew y.1).bind fun y2 =>
  (app ([7] : List Int) y2.1).bind fun l2 =>
  (ZcS ([(api_Piece.mk l2 false)] : List api_Piece)).bind fun y3 =>
  (gd (((decide (y3.2 = 0)) && (decide ((y3.1.length : Int) = 1))) == true) (api_Rest.mk 0 (Vector.replicate 64 0) (Vector.replicate 64 0) false 0 false) (idx y3.1 0)).bind fun x =>
  (gd ((((decide (y3.2 = 0)) && (decide ((y3.1.length : Int) = 1))) && (decide (x.Number = 9))) == true) (api_Rest.mk 0 (Vector.replicate 64 0) (Vector.replicate 64 0) false 0 false) (idx y3.1 0)).bind fun x2 =>
  (gd (((((decide (y3.2 = 0)) && (decide ((y3.1.length : Int) = 1))) && (decide (x.Number = 9))) && (decide (x2.Frame = y.1))) == true) (api_Rest.mk 0 (Vector.replicate 64 0) (Vector.replicate 64 0) false 0 false) (idx y3.1 0)).bind fun x3 =>
  (gd ((((((decide (y3.2 = 0)) && (decide ((y3.1.length : Int) = 1))) && (decide (x.Number = 9))) && (decide (x2.Frame = y.1))) && x3.Sound) == true) (api_Rest.mk 0 (Vector.replicate 64 0) (Vector.replicate 64 0) false 0 false) (idx y3.1 0)).bind fun x4 =>
  (gd (((((((decide (y3.2 = 0)) && (decide ((y3.1.length : Int) = 1))) && (decide (x.Number = 9))) && (decide (x2.Frame = y.1))) && x3.Sound) && (decide (x4.Copies = 1))) == true) (api_Rest.mk 0 (Vector.replicate 64 0) (Vector.replicate 64 0) false 0 false) (idx y3.1 0)).bind fun x5 =>
  (gd (((((((decide (y3.2 = 0)) && (decide ((y3.1.length : Int) = 1))) && (decide (x.Number = 9))) && (decide (x2.Frame = y.1))) && x3.Sound) && (decide (x4.Copies = 1))) == true) 0 (ZA x5.States 63)).bind fun x6 =>
  some (((((((decide (y3.2 = 0)) && (decide ((y3.1.length : Int) = 1))) && (decide (x.Number = 9))) && (decide (x2.Frame = y.1))) && x3.Sound) && (decide (x4.Copies = 1))) && (decide (x6 = 3)))
theorem ZkQ : Le (Ziq ) (Zco ) := by
  unfold Ziq Zco
  with_reducible repeat' (first | exact Le.refl _ | apply Le.bind | apply Le.gd | apply ZlW | apply Zjt | apply ZhJ | intro _)
end Go.Vx

namespace Go.Vx
open Go Go.RowKit
theorem Zqo : Zco = some true := ZkQ _ (by decide +kernel)
end Go.Vx

namespace Go.Vx
open Go Go.RowKit
def hvB (bs : List Int) : List Int := bs.flatMap fun b => [b / 16, b % 16]
def hv (p : api_Piece) : List Int := if p.Half = true then (hvB p.Bytes).drop 1 else hvB p.Bytes
def u8L (l : List Int) : Prop := ∀ x ∈ l, 0 ≤ x ∧ x ≤ 255
def Zm4 : List Int → Bool
  | [] => false
  | x :: _ => decide (x ≤ 15)
def Zft (p : api_Piece) : Int := if 200000 < (p.Bytes.length : Int) then 3 else if (p.Half && !Zm4 p.Bytes) = true then 2 else 0
theorem ZrA {n : Int} (h : wfI .u8 n) : 0 ≤ n ∧ n ≤ 255 := by
  have h' : (decide (IntKind.u8.min ≤ n) && decide (n ≤ IntKind.u8.max)) = true := h
  have e1 : IntKind.u8.min = 0 := by decide
  have e2 : IntKind.u8.max = 255 := by decide
  rw [e1, e2] at h'
  simpa using h'
theorem Zmm {p : api_Piece} (h : XV p) : u8L p.Bytes := fun x hx => ZrA (h.1.2 x hx)
theorem Z7 {z : Int} (h1 : -9223372036854775808 ≤ z) (h2 : z ≤ 9223372036854775807) : i64 z = z := Zpx h1 h2
theorem ZoU (x : Int) : shr .u8 x 4 = some (x / 16) := by
  unfold shr
  rw [if_neg (by decide)]
  have e : (2 : Int) ^ min (Int.toNat 4) IntKind.u8.bits = 16 := by decide
  rw [e, Int.fdiv_eq_ediv_of_nonneg _ (by decide)]
theorem Zre (x : Int) : shr .u8 x 0 = some x := by
  unfold shr
  rw [if_neg (by decide)]
  have e : (2 : Int) ^ min (Int.toNat 0) IntKind.u8.bits = 1 := by decide
  rw [e, Int.fdiv_eq_ediv_of_nonneg _ (by decide), Int.ediv_one]
theorem ZmL : (List.range 256).all (fun n => decide (Jq .u8 (n : Int) 15 = ((n % 16 : Nat) : Int))) = true := by decide +kernel
theorem ZoP {x : Int} (h : 0 ≤ x ∧ x ≤ 255) : Jq .u8 x 15 = x % 16 := by
  have := List.all_eq_true.1 ZmL x.toNat (List.mem_range.2 (by omega))
  simp only [decide_eq_true_eq] at this
  rw [show ((x.toNat : Nat) : Int) = x by omega] at this
  rw [this]; omega
theorem ZlF (p : api_Piece) (h : u8L p.Bytes) : Xl p = some (Zft p) := by
  unfold Xl Zft
  by_cases h1 : 200000 < (p.Bytes.length : Int)
  · rw [if_pos (by simpa using h1), if_pos h1]
  · rw [if_neg (by simpa using h1), if_neg h1]
    obtain ⟨bs, hf⟩ := p
    simp only at h ⊢
    cases hf
    · simp
    · cases bs with
      | nil => simp [Zm4]
      | cons x tl =>
        have hx := h x (List.mem_cons_self ..)
        have e0 : ¬ ((x :: tl).length : Int) = 0 := by simp; omega
        have e1 : idx (x :: tl) 0 = some x := by simp [idx]
        have e2 : (x / 16 = 0) ↔ x ≤ 15 := by omega
        simp only [e0, decide_false, e1, Zm4, Bool.true_and, beq_self_eq_true, Bool.and_self, Zdm, Option.bind_some, ZoU, Bool.false_or, e2]
        split <;> rfl
theorem ZkR (p : api_Piece) (h : u8L p.Bytes) : ZaT p = some (Zft p) := by
  unfold ZaT Zft
  by_cases h1 : 200000 < (p.Bytes.length : Int)
  · rw [if_pos (by simpa using h1), if_pos h1]
  · rw [if_neg (by simpa using h1), if_neg h1]
    obtain ⟨bs, hf⟩ := p
    simp only at h ⊢
    cases hf
    · simp
    · cases bs with
      | nil => simp [Zm4]
      | cons x tl =>
        have hx := h x (List.mem_cons_self ..)
        have e0 : ¬ ((x :: tl).length : Int) = 0 := by simp; omega
        have e1 : idx (x :: tl) 0 = some x := by simp [idx]
        have e2 : (decide (15 < x)) = !decide (x ≤ 15) := by rw [← decide_not]; congr 1; simp
        simp only [e0, decide_false, e1, Zm4, Bool.true_and, beq_self_eq_true, Bool.and_self, Zdm, Option.bind_some, Bool.false_or, e2]
        split <;> rfl
theorem ZjV {p : api_Piece} (h : Zft p = 0) : p.Bytes.length ≤ 200000 ∧ (p.Half = true → ∃ x tl, p.Bytes = x :: tl ∧ x ≤ 15) := by
  unfold Zft at h
  split at h
  · cases h
  · rename_i h1
    split at h
    · cases h
    · rename_i h2
      refine ⟨by omega, fun hf => ?_⟩
      rw [hf] at h2
      cases hb : p.Bytes with
      | nil => rw [hb] at h2; simp [Zm4] at h2
      | cons x tl => rw [hb] at h2; simp [Zm4] at h2; exact ⟨x, tl, rfl, h2⟩
theorem Zlr (bs : List Int) : (hvB bs).length = 2 * bs.length := by
  unfold hvB
  induction bs with
  | nil => rfl
  | cons b bs ih => simp only [List.flatMap_cons, List.length_append, ih, List.length_cons, List.length_nil]; omega
theorem Zp2 {bs : List Int} {k : Nat} {b : Int} (h : bs[k]? = some b) : (hvB bs)[2 * k]? = some (b / 16) ∧ (hvB bs)[2 * k + 1]? = some (b % 16) := by
  induction bs generalizing k with
  | nil => simp at h
  | cons x bs ih =>
    have e : hvB (x :: bs) = x / 16 :: x % 16 :: hvB bs := rfl
    rw [e]
    cases k with
    | zero => simp at h; subst h; exact ⟨rfl, rfl⟩
    | succ k =>
      obtain ⟨h1, h2⟩ := ih (k := k) (by simpa using h)
      have e1 : 2 * (k + 1) = 2 * k + 1 + 1 := by omega
      rw [e1]
      exact ⟨by simpa using h1, by simpa using h2⟩
theorem Zox {bs : List Int} (h : u8L bs) : ∀ x ∈ hvB bs, 0 ≤ x ∧ x ≤ 15 := by
  intro x hx
  obtain ⟨b, hb, hx⟩ := List.mem_flatMap.1 hx
  have := h b hb
  simp only [List.mem_cons, List.not_mem_nil, or_false] at hx
  rcases hx with rfl | rfl <;> omega
theorem ZrG {p : api_Piece} (h : u8L p.Bytes) : ∀ x ∈ hv p, 0 ≤ x ∧ x ≤ 15 := by
  intro x hx
  unfold hv at hx
  split at hx
  · exact Zox h x (List.mem_of_mem_drop hx)
  · exact Zox h x hx
def ahN (p : api_Piece) : Nat := if p.Half = true then 1 else 0
theorem Zny (p : api_Piece) : Jo p = some (ahN p : Int) := by
  unfold Jo ahN
  split <;> rfl
theorem ZoH (p : api_Piece) : hv p = (hvB p.Bytes).drop (ahN p) := by
  unfold hv ahN
  split <;> simp
theorem ZmM (p : api_Piece) : (hv p).length = 2 * p.Bytes.length - ahN p := by rw [ZoH, List.length_drop, Zlr]
theorem ZqD {p : api_Piece} (h : Zft p = 0) : ahN p ≤ 1 ∧ ahN p ≤ 2 * p.Bytes.length := by
  unfold ahN
  split
  · rename_i hf
    obtain ⟨x, tl, hb, _⟩ := (ZjV h).2 hf
    rw [hb]; simp; omega
  · simp
theorem Zon {p : api_Piece} (h : Zft p = 0) : JE p = some ((hv p).length : Int) := by
  have hl := (ZjV h).1
  have ha := ZqD h
  unfold JE
  rw [Zny, Option.bind_some, Z7 (z := 2 * (p.Bytes.length : Int)) (by omega) (by omega), Z7 (by omega) (by omega), ZmM]
  congr 1
  omega
theorem ZoI {bs : List Int} (h : u8L bs) {j : Nat} {x : Int} (hl : bs.length ≤ 200000) (hj : (hvB bs)[j]? = some x) : JG bs (j : Int) = some x := by
  have hjl := (List.getElem?_eq_some_iff.1 hj).1
  rw [Zlr] at hjl
  obtain ⟨b, hb⟩ := ZT (xs := bs) (k := j / 2) (by omega)
  have hbb := h b (List.mem_of_getElem? hb)
  obtain ⟨g1, g2⟩ := Zp2 hb
  have eq : quo .i64 (j : Int) 2 = some ((j / 2 : Nat) : Int) := by
    unfold quo
    rw [if_neg (by decide), Int.tdiv_eq_ediv_of_nonneg (by omega)]
    have : (j : Int) / 2 = ((j / 2 : Nat) : Int) := by omega
    rw [this]
    exact congrArg some (Z7 (by omega) (by omega))
  have er : rem (j : Int) 2 = some ((j % 2 : Nat) : Int) := by
    unfold rem
    rw [if_neg (by decide), Int.tmod_eq_emod_of_nonneg (by omega)]
    rfl
  unfold JG
  rw [eq, Option.bind_some, Z2 hb, Option.bind_some, er, Option.bind_some]
  rcases Nat.mod_two_eq_zero_or_one j with hm | hm
  · have e : i64 (4 - i64 (4 * ((j % 2 : Nat) : Int))) = 4 := by rw [hm]; rfl
    have ej : 2 * (j / 2) = j := by omega
    rw [ej, hj] at g1
    cases g1
    rw [e, ZoU, Option.bind_some, ZoP (by omega)]
    congr 1; omega
  · have e : i64 (4 - i64 (4 * ((j % 2 : Nat) : Int))) = 0 := by rw [hm]; rfl
    have ej : 2 * (j / 2) + 1 = j := by omega
    rw [ej, hj] at g2
    cases g2
    rw [e, Zre, Option.bind_some, ZoP hbb]
theorem ZnY {body : List Int → Int → Option ((List Int × Int) ⊕ List Int)} (xs : List Int)
    (hstep : ∀ (k : Nat) acc x, acc.length = xs.length → xs[k]? = some x → body acc k = some (.inl (acc.set k x, (k : Int) + 1))) (hend : ∀ acc, body acc xs.length = some (.inr acc)) {l0 : List Int} (h0 : l0.length = xs.length) :
    loop (t2 body) (l0, 0) = some xs := by
  have := Zdv (body := t2 body) (fun p => ∃ k : Nat, p.2 = k ∧ k ≤ xs.length ∧ p.1.length = xs.length ∧ p.1.take k = xs.take k) (fun p => xs.length - p.2.toNat) (fun _ => xs) (by
    rintro ⟨acc, i⟩ ⟨k, hi, hk, hl, ht⟩
    simp only at hi hl ht
    subst hi
    simp only [Zc8]
    rcases Nat.lt_or_ge k xs.length with hlt | hge
    · left
      obtain ⟨x, hx⟩ := ZT hlt
      refine ⟨_, hstep k acc x hl hx, ⟨k + 1, by push_cast; rfl, hlt, by simpa using hl, ?_⟩, by simp only; omega, trivial⟩
      simp only
      rw [List.take_add_one, List.take_add_one, List.getElem?_set_self (by omega), hx, List.take_set_of_le (Nat.le_refl _), ht]
    · right
      have : k = xs.length := by omega
      subst this
      rw [List.take_of_length_le (by omega), List.take_of_length_le (by omega)] at ht
      rw [ht]; exact hend xs) (l0, 0) ⟨0, rfl, Nat.zero_le _, h0, by simp⟩
  exact this
theorem Zo0 {p : api_Piece} (hu : u8L p.Bytes) (h : Zft p = 0) : X0 p = some (hv p) := by
  have hl := (ZjV h).1
  have ha := ZqD h
  have hlen := ZmM p
  unfold X0
  rw [Zon h, Option.bind_some]
  have hm : mks ((hv p).length : Int) (0 : Int) = some (List.replicate (hv p).length 0) := by
    unfold mks; rw [if_pos (by omega)]; simp
  rw [hm, Option.bind_some]
  have := ZnY (body := XG p (List.replicate (hv p).length 0)) (hv p) (fun k acc x hacc hx => by
    have hk := (List.getElem?_eq_some_iff.1 hx).1
    have hx' := hx
    rw [ZoH, List.getElem?_drop] at hx'
    have e : i64 ((k : Int) + (ahN p : Int)) = ((ahN p + k : Nat) : Int) := by rw [Z7 (by omega) (by omega)]; push_cast; omega
    obtain ⟨y, hy⟩ := ZT (xs := acc) (k := k) (by omega)
    have hc : (k : Int) < (((List.replicate (hv p).length (0 : Int)).length : Nat) : Int) := by simp; omega
    unfold XG
    rw [if_pos (by simpa using hc), Zny, Option.bind_some, e, ZoI hu hl hx', Option.bind_some, Z2 hy, Option.bind_some, Z7 (by omega) (by omega)]
    rfl) (fun acc => by unfold XG; rw [if_neg (by simp)]) (l0 := List.replicate (hv p).length 0) (by simp)
  rw [this]
  rfl
theorem ZnD {p : api_Piece} (hu : u8L p.Bytes) (h : p.Bytes.length ≤ 4000000) : Zbm p = some (hv p) := by
  have key : ∀ (k : Nat), (hvB (p.Bytes.take k)).length = 2 * min k p.Bytes.length := fun k => by rw [Zlr, List.length_take]
  have := Zdv (body := t2 (Zba p)) (fun s => ∃ k : Nat, s.2 = k ∧ k ≤ p.Bytes.length ∧ s.1 = (hvB (p.Bytes.take k)).drop (ahN p)) (fun s => p.Bytes.length - s.2.toNat) (fun _ => hv p) (by
    rintro ⟨acc, i⟩ ⟨k, hi, hk, hac⟩
    simp only at hi hac
    subst hi
    simp only [Zc8]
    rcases Nat.lt_or_ge k p.Bytes.length with hlt | hge
    · left
      obtain ⟨x, hx⟩ := ZT hlt
      have hxb := hu x (List.mem_of_getElem? hx)
      have hc := Zr0 hx
      have hq : quo .u8 x 16 = some (x / 16) := by
        unfold quo
        rw [if_neg (by decide), Int.tdiv_eq_ediv_of_nonneg (by omega)]
        congr 1
        have : ∀ z : Int, 0 ≤ z → z ≤ 255 → IntKind.u8.wrap z = z := fun z h1 h2 => by
          unfold IntKind.wrap
          have e : (2 : Int) ^ IntKind.u8.bits = 256 := by decide
          have e2 : IntKind.u8.signed = false := rfl
          simp only [e, e2]
          simp
          omega
        exact this _ (by omega) (by omega)
      have hr : rem x 16 = some (x % 16) := by
        unfold rem
        rw [if_neg (by decide), Int.tmod_eq_emod_of_nonneg (by omega)]
      have htk : p.Bytes.take (k + 1) = p.Bytes.take k ++ [x] := by rw [List.take_add_one, hx]; rfl
      have hB : hvB (p.Bytes.take (k + 1)) = hvB (p.Bytes.take k) ++ [x / 16, x % 16] := by rw [htk]; simp [hvB]
      have hlen : acc.length ≤ 2 * k := by rw [hac, List.length_drop, key]; omega
      refine ⟨((hvB (p.Bytes.take (k + 1))).drop (ahN p), (k : Int) + 1), ?_, ⟨k + 1, by push_cast; rfl, hlt, rfl⟩, by simp only; omega, trivial⟩
      unfold Zba
      rw [if_pos (by simpa using hc), Z2 hx, Option.bind_some]
      rw [hB]
      by_cases h0 : (decide (0 < (k : Int)) || !p.Half) = true
      · rw [if_pos h0, hq, Option.bind_some, XP (by simp; omega), Option.bind_some, Option.bind_some, QN, hr, Option.bind_some, XP (by simp; omega), Option.bind_some, Z7 (by omega) (by omega)]
        have hle : ahN p ≤ (hvB (p.Bytes.take k)).length := by
          rw [key]
          unfold ahN
          split
          · rename_i hf; simp [hf] at h0; omega
          · omega
        rw [hac, List.drop_append_of_le_length hle, List.append_assoc]; rfl
      · rw [if_neg h0]
        simp only [Bool.or_eq_true, decide_eq_true_eq, Bool.not_eq_true', not_or, Bool.not_eq_false] at h0
        obtain ⟨h1, h2⟩ := h0
        obtain rfl : k = 0 := by omega
        have ea : ahN p = 1 := by unfold ahN; rw [if_pos h2]
        rw [ea] at hac ⊢
        have e0 : hvB (p.Bytes.take 0) = [] := rfl
        rw [e0] at hac ⊢
        simp only [List.drop_nil] at hac
        subst hac
        simp only [Option.bind_some, QN, hr]
        rw [XP (by simp)]
        rfl
    · right
      have : k = p.Bytes.length := by omega
      subst this
      unfold Zba
      rw [if_neg (by simp), hac, ZoH, List.take_length]) ([], 0) ⟨0, rfl, Nat.zero_le _, by simp [hvB]⟩
  unfold Zbm
  rw [this]
  rfl
theorem ZnP {p : api_Piece} (hu : u8L p.Bytes) (h : p.Bytes.length ≤ 200000) : Zbm p = some (hv p) := ZnD hu (by omega)
end Go.Vx

namespace Go.Vx
open Go Go.RowKit
def w3 (a b c : Int) : Int := 256 * a + 16 * b + c
def w3B (n : Nat) : Bool :=
  let a : Int := ((n / 256 : Nat) : Int); let b : Int := ((n / 16 % 16 : Nat) : Int); let c : Int := ((n % 16 : Nat) : Int)
  decide (shl .u16 (u16 a) 8 = some (256 * a)) && decide (shl .u16 (u16 b) 4 = some (16 * b)) && decide (bor .u16 (bor .u16 (256 * a) (16 * b)) (u16 c) = w3 a b c) && decide (u16 (u16 (u16 (u16 a * 256) + u16 (u16 b * 16)) + u16 c) = w3 a b c)
theorem Zq8 : (List.range 4096).all w3B = true := by decide +kernel
theorem ZoG {a b c : Int} (ha : 0 ≤ a ∧ a ≤ 15) (hb : 0 ≤ b ∧ b ≤ 15) (hc : 0 ≤ c ∧ c ≤ 15) :
    shl .u16 (u16 a) 8 = some (256 * a) ∧ shl .u16 (u16 b) 4 = some (16 * b) ∧ bor .u16 (bor .u16 (256 * a) (16 * b)) (u16 c) = w3 a b c ∧ u16 (u16 (u16 (u16 a * 256) + u16 (u16 b * 16)) + u16 c) = w3 a b c := by
  have := List.all_eq_true.1 Zq8 (a.toNat * 256 + b.toNat * 16 + c.toNat) (List.mem_range.2 (by omega))
  simp only [w3B, Bool.and_eq_true, decide_eq_true_eq] at this
  have e1 : (((a.toNat * 256 + b.toNat * 16 + c.toNat) / 256 : Nat) : Int) = a := by omega
  have e2 : (((a.toNat * 256 + b.toNat * 16 + c.toNat) / 16 % 16 : Nat) : Int) = b := by omega
  have e3 : (((a.toNat * 256 + b.toNat * 16 + c.toNat) % 16 : Nat) : Int) = c := by omega
  rw [e1, e2, e3] at this
  exact ⟨this.1.1.1, this.1.1.2, this.1.2, this.2⟩
def hL (l : List Int) : Prop := ∀ x ∈ l, 0 ≤ x ∧ x ≤ 15
theorem ZhM {a b c : Int} {tl : List Int} (ha : 0 ≤ a ∧ a ≤ 15) (hb : 0 ≤ b ∧ b ≤ 15) (hc : 0 ≤ c ∧ c ≤ 15) : Xi (a :: b :: c :: tl) = some (w3 a b c) := by
  obtain ⟨h1, h2, h3, _⟩ := ZoG ha hb hc
  unfold Xi
  have e0 : idx (a :: b :: c :: tl) 0 = some a := by simp [idx]
  have e1 : idx (a :: b :: c :: tl) 1 = some b := by simp [idx]
  have e2 : idx (a :: b :: c :: tl) 2 = some c := by simp [idx]
  rw [e0, Option.bind_some, h1, Option.bind_some, e1, Option.bind_some, h2, Option.bind_some, e2, Option.bind_some, h3]
theorem Zp3 {l : List Int} {k : Nat} {a b c : Int} (h0 : l[k]? = some a) (h1 : l[k + 1]? = some b) (h2 : l[k + 2]? = some c) : slc l (k : Int) ((k : Int) + 3) = some [a, b, c] := by
  have hk := (List.getElem?_eq_some_iff.1 h2).1
  unfold slc
  rw [if_pos (by omega)]
  congr 1
  have e1 : ((k : Int) + 3).toNat = k + 3 := by omega
  rw [e1, Int.toNat_natCast]
  have : l.take (k + 3) = l.take k ++ [a, b, c] := by
    rw [show k + 3 = k + 1 + 1 + 1 by omega, List.take_add_one, List.take_add_one, List.take_add_one, h0, h1, show k + 1 + 1 = k + 2 by omega, h2]
    simp
  rw [this, List.drop_append_of_le_length (by simp; omega), List.drop_eq_nil_of_le (by simp; omega)]
  rfl
theorem ZlV {h : List Int} (hh : hL h) {at_ : Int} (hat : -1000000 ≤ at_ ∧ at_ ≤ 1000000) (hlen : h.length ≤ 1000000) (f : Vector Int 64) (w : Vector Bool 64) {i : Int} (hi : 0 ≤ i) :
    XM h at_ f w i = Z6 h at_ f w i := by
  unfold XM Z6
  by_cases hi2 : i < 64
  · have e0 : decide (i < 64) = true := by simpa using hi2
    simp only [e0, if_true]
    rw [Z7 (z := 3 * i) (by omega) (by omega), Z7 (z := at_ + 3 * i) (by omega) (by omega), Z7 (z := at_ + 3 * i + 3) (by omega) (by omega)]
    by_cases hc : 0 ≤ at_ + 3 * i ∧ at_ + 3 * i + 3 ≤ (h.length : Int)
    · rw [if_neg (by simp; omega), if_pos (by simp; omega)]
      obtain ⟨k, hk⟩ : ∃ k : Nat, at_ + 3 * i = k := ⟨(at_ + 3 * i).toNat, by omega⟩
      obtain ⟨j, rfl⟩ : ∃ j : Nat, i = j := ⟨i.toNat, by omega⟩
      rw [hk] at hc ⊢
      obtain ⟨a, ha⟩ := ZT (xs := h) (k := k) (by omega)
      obtain ⟨b, hb⟩ := ZT (xs := h) (k := k + 1) (by omega)
      obtain ⟨c, hc'⟩ := ZT (xs := h) (k := k + 2) (by omega)
      have ba := hh a (List.mem_of_getElem? ha)
      have bb := hh b (List.mem_of_getElem? hb)
      have bc := hh c (List.mem_of_getElem? hc')
      have e1 : i64 ((k : Int) + 1) = ((k + 1 : Nat) : Int) := by rw [Z7 (by omega) (by omega)]; push_cast; rfl
      have e2 : i64 ((k : Int) + 2) = ((k + 2 : Nat) : Int) := by rw [Z7 (by omega) (by omega)]; push_cast; rfl
      rw [Zp3 ha hb hc', Option.bind_some, ZhM ba bb bc, Option.bind_some, e1, e2, Z2 ha, Z2 hb, Z2 hc']
      obtain ⟨_, _, _, h4⟩ := ZoG ba bb bc
      simp only [Option.bind_some, h4]
      have v1 : ∃ x, ZA f (j : Int) = some x := ⟨_, by unfold ZA; rw [if_pos (by omega)]; exact List.getElem?_eq_getElem (by simp; omega)⟩
      have v2 : ∃ x, ZA w (j : Int) = some x := ⟨_, by unfold ZA; rw [if_pos (by omega)]; exact List.getElem?_eq_getElem (by simp; omega)⟩
      obtain ⟨x1, v1⟩ := v1
      obtain ⟨x2, v2⟩ := v2
      rw [v1, v2]; rfl
    · rw [if_pos (by simp; omega), if_neg (by simp; omega)]
  · have e0 : decide (i < 64) = false := by simpa using hi2
    simp only [e0, Bool.false_eq_true, if_false]
def Zid (h : List Int) (at_ : Int) (s : Vector Int 64 × Vector Bool 64) (i : Nat) : Vector Int 64 × Vector Bool 64 :=
  if 0 ≤ at_ + 3 * i ∧ at_ + 3 * i + 3 ≤ (h.length : Int) then (Qp s.1 i (w3 (h.getD (at_ + 3 * i).toNat 0) (h.getD ((at_ + 3 * i).toNat + 1) 0) (h.getD ((at_ + 3 * i).toNat + 2) 0)), Qp s.2 i true) else s
def frW (h : List Int) (at_ : Int) : Vector Int 64 × Vector Bool 64 := (List.range 64).foldl (Zid h at_) (Vector.replicate 64 0, Vector.replicate 64 false)
theorem Jf {l : List Int} {k : Nat} {x : Int} (h : l[k]? = some x) : l.getD k 0 = x := by rw [List.getD_eq_getElem?_getD, h]; rfl
theorem Zca {σ : Type} (g : σ → Nat → σ) (s0 : σ) (k : Nat) : (List.range (k + 1)).foldl g s0 = g ((List.range k).foldl g s0) k := by rw [List.range_succ, List.foldl_append]; rfl
theorem Zj0 {h : List Int} (hh : hL h) {at_ : Int} (hat : -1000000 ≤ at_ ∧ at_ ≤ 1000000) (hlen : h.length ≤ 1000000) : Xg h at_ = some (frW h at_) := by
  have := Zdv (body := t3 (Z6 h at_)) (fun s => ∃ k : Nat, s.2.2 = k ∧ k ≤ 64 ∧ (s.1, s.2.1) = (List.range k).foldl (Zid h at_) (Vector.replicate 64 0, Vector.replicate 64 false)) (fun s => 64 - s.2.2.toNat) (fun _ => frW h at_) (by
    rintro ⟨f, w, i⟩ ⟨k, hi, hk, hs⟩
    simp only at hi hs
    subst hi
    show (∃ s', Z6 h at_ f w (k : Int) = _ ∧ _) ∨ Z6 h at_ f w (k : Int) = _
    rcases Nat.lt_or_ge k 64 with hlt | hge
    · left
      refine ⟨((Zid h at_ (f, w) k).1, (Zid h at_ (f, w) k).2, (k : Int) + 1), ?_, ⟨k + 1, by push_cast; rfl, hlt, ?_⟩, by simp only; omega, rfl⟩
      · unfold Z6 Zid
        rw [if_pos (by simp; omega)]
        rw [Z7 (z := 3 * (k : Int)) (by omega) (by omega), Z7 (z := at_ + 3 * (k : Int)) (by omega) (by omega), Z7 (z := at_ + 3 * (k : Int) + 3) (by omega) (by omega), Z7 (z := (k : Int) + 1) (by omega) (by omega)]
        by_cases hc : 0 ≤ at_ + 3 * (k : Int) ∧ at_ + 3 * (k : Int) + 3 ≤ (h.length : Int)
        · rw [if_pos (by simp; omega), if_pos hc]
          obtain ⟨q, hq⟩ : ∃ q : Nat, at_ + 3 * (k : Int) = q := ⟨(at_ + 3 * (k : Int)).toNat, by omega⟩
          rw [hq] at hc ⊢
          obtain ⟨a, ha⟩ := ZT (xs := h) (k := q) (by omega)
          obtain ⟨b, hb⟩ := ZT (xs := h) (k := q + 1) (by omega)
          obtain ⟨c, hc'⟩ := ZT (xs := h) (k := q + 2) (by omega)
          have ba := hh a (List.mem_of_getElem? ha)
          have bb := hh b (List.mem_of_getElem? hb)
          have bc := hh c (List.mem_of_getElem? hc')
          rw [Zp3 ha hb hc', Option.bind_some, ZhM ba bb bc, Option.bind_some]
          obtain ⟨x1, v1⟩ : ∃ x, ZA f (k : Int) = some x := ⟨_, by unfold ZA; rw [if_pos (by omega)]; exact List.getElem?_eq_getElem (by simp; omega)⟩
          obtain ⟨x2, v2⟩ : ∃ x, ZA w (k : Int) = some x := ⟨_, by unfold ZA; rw [if_pos (by omega)]; exact List.getElem?_eq_getElem (by simp; omega)⟩
          rw [v1, Option.bind_some, v2, Option.bind_some, Int.toNat_natCast, Jf ha, Jf hb, Jf hc']
        · rw [if_neg (by simp; omega), if_neg hc]
      · simp only
        rw [Zca, ← hs]
    · right
      have : k = 64 := by omega
      subst this
      unfold Z6
      rw [if_neg (by decide)]
      unfold frW
      rw [← hs]) (Vector.replicate 64 0, Vector.replicate 64 false, 0) ⟨0, rfl, by omega, rfl⟩
  unfold Xg
  rw [this]
  rfl
theorem zV : (#v[0, 0, 0, 0, 0, 0, 0, 0, 0, 0, 0, 0, 0, 0, 0, 0, 0, 0, 0, 0, 0, 0, 0, 0, 0, 0, 0, 0, 0, 0, 0, 0, 0, 0, 0, 0, 0, 0, 0, 0, 0, 0, 0, 0, 0, 0, 0, 0, 0, 0, 0, 0, 0, 0, 0, 0, 0, 0, 0, 0, 0, 0, 0, 0] : Vector Int 64) = Vector.replicate 64 0 := by decide
theorem zB : (#v[false, false, false, false, false, false, false, false, false, false, false, false, false, false, false, false, false, false, false, false, false, false, false, false, false, false, false, false, false, false, false, false, false, false, false, false, false, false, false, false, false, false, false, false, false, false, false, false, false, false, false, false, false, false, false, false, false, false, false, false, false, false, false, false] : Vector Bool 64) = Vector.replicate 64 false := by decide
theorem Zko {h : List Int} (hh : hL h) {at_ : Int} (hat : -1000000 ≤ at_ ∧ at_ ≤ 1000000) (hlen : h.length ≤ 1000000) : ZaM h at_ = some (frW h at_) := by
  have h1 := Zj0 hh hat hlen
  unfold Xg at h1
  unfold ZaM
  rw [zV, zB]
  have e : loop (t3 (XM h at_)) (Vector.replicate 64 0, Vector.replicate 64 false, 0) = loop (t3 (Z6 h at_)) (Vector.replicate 64 0, Vector.replicate 64 false, 0) := by
    have key : loop (t3 (Z6 h at_)) (Vector.replicate 64 0, Vector.replicate 64 false, 0) = some (frW h at_) := by
      cases hq : loop (t3 (Z6 h at_)) (Vector.replicate 64 0, Vector.replicate 64 false, 0) with
      | none => rw [hq] at h1; cases h1
      | some r => rw [hq] at h1; exact h1
    rw [key]
    have := Zdv (body := t3 (XM h at_)) (fun s => ∃ k : Nat, s.2.2 = k ∧ k ≤ 64 ∧ (s.1, s.2.1) = (List.range k).foldl (Zid h at_) (Vector.replicate 64 0, Vector.replicate 64 false)) (fun s => 64 - s.2.2.toNat) (fun _ => frW h at_) (by
      rintro ⟨f, w, i⟩ ⟨k, hi, hk, hs⟩
      simp only at hi hs
      subst hi
      show (∃ s', XM h at_ f w (k : Int) = _ ∧ _) ∨ XM h at_ f w (k : Int) = _
      rw [ZlV hh hat hlen f w (by omega)]
      rcases Nat.lt_or_ge k 64 with hlt | hge
      · left
        refine ⟨((Zid h at_ (f, w) k).1, (Zid h at_ (f, w) k).2, (k : Int) + 1), ?_, ⟨k + 1, by push_cast; rfl, hlt, ?_⟩, by simp only; omega, rfl⟩
        · unfold Z6 Zid
          rw [if_pos (by simp; omega)]
          rw [Z7 (z := 3 * (k : Int)) (by omega) (by omega), Z7 (z := at_ + 3 * (k : Int)) (by omega) (by omega), Z7 (z := at_ + 3 * (k : Int) + 3) (by omega) (by omega), Z7 (z := (k : Int) + 1) (by omega) (by omega)]
          by_cases hc : 0 ≤ at_ + 3 * (k : Int) ∧ at_ + 3 * (k : Int) + 3 ≤ (h.length : Int)
          · rw [if_pos (by simp; omega), if_pos hc]
            obtain ⟨q, hq⟩ : ∃ q : Nat, at_ + 3 * (k : Int) = q := ⟨(at_ + 3 * (k : Int)).toNat, by omega⟩
            rw [hq] at hc ⊢
            obtain ⟨a, ha⟩ := ZT (xs := h) (k := q) (by omega)
            obtain ⟨b, hb⟩ := ZT (xs := h) (k := q + 1) (by omega)
            obtain ⟨c, hc'⟩ := ZT (xs := h) (k := q + 2) (by omega)
            have ba := hh a (List.mem_of_getElem? ha)
            have bb := hh b (List.mem_of_getElem? hb)
            have bc := hh c (List.mem_of_getElem? hc')
            rw [Zp3 ha hb hc', Option.bind_some, ZhM ba bb bc, Option.bind_some]
            obtain ⟨x1, v1⟩ : ∃ x, ZA f (k : Int) = some x := ⟨_, by unfold ZA; rw [if_pos (by omega)]; exact List.getElem?_eq_getElem (by simp; omega)⟩
            obtain ⟨x2, v2⟩ : ∃ x, ZA w (k : Int) = some x := ⟨_, by unfold ZA; rw [if_pos (by omega)]; exact List.getElem?_eq_getElem (by simp; omega)⟩
            rw [v1, Option.bind_some, v2, Option.bind_some, Int.toNat_natCast, Jf ha, Jf hb, Jf hc']
          · rw [if_neg (by simp; omega), if_neg hc]
        · simp only
          rw [Zca, ← hs]
      · right
        have : k = 64 := by omega
        subst this
        unfold Z6
        rw [if_neg (by decide)]
        unfold frW
        rw [← hs]) (Vector.replicate 64 0, Vector.replicate 64 false, 0) ⟨0, rfl, by omega, rfl⟩
    exact this
  rw [e]
  exact h1
theorem ZrH {p : api_Piece} (h : Zft p = 0) : (hv p).length ≤ 400000 := by have := (ZjV h).1; rw [ZmM]; omega
end Go.Vx
