/- A text of the proof: a verified executor of the program form, or the contracts of the functions that the law reaches. -/
import Derived.Test.YthdiljjohpamnaaGreatDoorRRShT
import Derived.Test.YthdiljjohpamnaaGreatDoorRRShLib
import Derived.Test.YthdiljjohpamnaaGreatDoorRRVH
import Derived.Test.YthdiljjohpamnaaGreatDoorRRVP
set_option linter.all false
namespace Go.Vx
open Go Go.RowKit
end Go.Vx

namespace Go.Vx
open Go Go.RowKit
theorem i64_id {z : Int} (h1 : -9223372036854775808 ≤ z) (h2 : z ≤ 9223372036854775807) : IntKind.i64.wrap z = z := w64 h1 h2
theorem u64_id {z : Int} (h1 : 0 ≤ z) (h2 : z < 18446744073709551616) : IntKind.u64.wrap z = z := wu64 h1 h2
@[simp] theorem gd_t {α : Type} {d : α} {o : Option α} : gd true d o = o := rfl
@[simp] theorem gd_f {α : Type} {d : α} {o : Option α} : gd false d o = some d := rfl
@[simp] theorem gd_tt {α : Type} {d : α} {o : Option α} : gd (true == true) d o = o := rfl
theorem idx_of {α : Type} {xs : List α} {k : Nat} {x : α} (h : xs[k]? = some x) : idx xs (k : Int) = some x := by simp [idx, h]
theorem lt_of {α : Type} {xs : List α} {k : Nat} {x : α} (h : xs[k]? = some x) : (k : Int) < (xs.length : Int) := by
  have := (List.getElem?_eq_some_iff.1 h).1; omega
theorem get_ex {α : Type} {xs : List α} {k : Nat} (h : k < xs.length) : ∃ x, xs[k]? = some x := ⟨xs[k], List.getElem?_eq_getElem h⟩
theorem app_of {α : Type} {xs ys : List α} (h : xs.length + ys.length ≤ 4294967296) : app xs ys = some (xs ++ ys) := by simp [app, h]

section loops
variable {σ ρ : Type}
theorem loop_to {body : σ → Option (σ ⊕ ρ)} (I : σ → Prop) (μ : σ → Nat) (F : σ → ρ) (step : ∀ s, I s → (∃ s', body s = some (.inl s') ∧ I s' ∧ μ s' < μ s ∧ F s = F s') ∨ body s = some (.inr (F s))) :
    ∀ s, I s → loop body s = some (F s) := by
  intro s hs
  obtain ⟨r, h1, h2⟩ := loop_inv (body := body) (fun s' => I s' ∧ F s = F s') μ (fun r => r = F s) (fun s' ⟨h1, h2⟩ => by
    rcases step s' h1 with ⟨s2, e1, e2, e3, e4⟩ | e
    · exact .inl ⟨s2, e1, ⟨e2, h2.trans e4⟩, e3⟩
    · exact .inr ⟨_, e, h2.symm⟩) s ⟨hs, rfl⟩
  rw [h1, h2]
variable {α : Type} {xs : List α}
theorem loop_ix1 {body : Int → Option (Int ⊕ ρ)} (F : Nat → ρ)
    (hstep : ∀ (k : Nat) x, xs[k]? = some x → (body k = some (.inl ((k : Int) + 1)) ∧ F k = F (k + 1)) ∨ body k = some (.inr (F k)))
    (hend : body xs.length = some (.inr (F xs.length))) : loop (t1 body) 0 = some (F 0) := by
  refine loop_to (body := t1 body) (fun i => ∃ k : Nat, i = k ∧ k ≤ xs.length) (fun i => xs.length - i.toNat) (fun i => F i.toNat) ?_ 0 ⟨0, rfl, Nat.zero_le _⟩
  rintro i ⟨k, rfl, hk⟩
  simp only [Int.toNat_natCast, t1_mk]
  rcases Nat.lt_or_ge k xs.length with h | h
  · obtain ⟨x, hx⟩ := get_ex h
    rcases hstep k x hx with ⟨h1, h2⟩ | h1
    · exact .inl ⟨_, h1, ⟨k + 1, by push_cast; rfl, h⟩, by omega, by rw [h2]; rfl⟩
    · exact .inr h1
  · have : k = xs.length := by omega
    subst this
    exact .inr hend
end loops
end Go.Vx

namespace Go.Vx
open Go Go.RowKit
section err
variable {α ε : Type}
def elimO {ρ : Type} (A : ε → ρ) (Z : ρ) : Option ε → ρ
  | some e => A e
  | none => Z
@[simp] theorem elimO_some {ρ : Type} (A : ε → ρ) (Z : ρ) (e : ε) : elimO A Z (some e) = A e := rfl
@[simp] theorem elimO_none {ρ : Type} (A : ε → ρ) (Z : ρ) : elimO A Z none = Z := rfl
end err
end Go.Vx

namespace Go.Vx
open Go Go.RowKit
theorem i64s {z : Int} (h1 : -9223372036854775808 ≤ z) (h2 : z ≤ 9223372036854775807) : i64 z = z := i64_id h1 h2
theorem pow_le {n : Nat} (h : n ≤ 61) : (1 : Int) ≤ 2 ^ n ∧ (2 : Int) ^ n ≤ 2305843009213693952 := by
  have e : ((2 ^ n : Nat) : Int) = (2 : Int) ^ n := by push_cast; rfl
  have h1 : 1 ≤ 2 ^ n := Nat.one_le_two_pow
  have h2 : 2 ^ n ≤ 2 ^ 61 := Nat.pow_le_pow_right (by decide) h
  rw [show (2 : Nat) ^ 61 = 2305843009213693952 by decide] at h2
  omega
theorem and_mask {v : Int} {n : Nat} (hn : n ≤ 61) : band .i64 v ((2 : Int) ^ n - 1) = v % (2 : Int) ^ n := by
  have hb := pow_le hn
  have e : ((2 : Int) ^ n - 1) = ((2 ^ n - 1 : Nat) : Int) := by
    have h1 : 1 ≤ 2 ^ n := Nat.one_le_two_pow
    have h2 : ((2 ^ n : Nat) : Int) = (2 : Int) ^ n := by push_cast; rfl
    omega
  have h2 : 2 ^ n ≤ 2 ^ 61 := Nat.pow_le_pow_right (by decide) hn
  have h2p : 0 < 2 ^ n := Nat.two_pow_pos n
  have e2 : (BitVec.ofInt 64 ((2 : Int) ^ n - 1)).toNat = 2 ^ n - 1 := by
    rw [e, BitVec.ofInt_natCast, BitVec.toNat_ofNat]
    exact Nat.mod_eq_of_lt (by have : (2 : Nat) ^ 61 < 2 ^ 64 := by decide
                               omega)
  have e3 : ((BitVec.ofInt 64 v).toNat : Int) = v % (2 : Int) ^ 64 := by
    rw [BitVec.toNat_ofInt]
    have : (0 : Int) ≤ v % ((2 ^ 64 : Nat) : Int) := Int.emod_nonneg _ (by decide)
    rw [Int.toNat_of_nonneg this]; rfl
  have e4 : ((BitVec.ofInt 64 v &&& BitVec.ofInt 64 ((2 : Int) ^ n - 1)).toNat : Int) = v % (2 : Int) ^ n := by
    rw [BitVec.toNat_and, e2, Nat.and_two_pow_sub_one_eq_mod]
    push_cast
    rw [e3]
    have : ((2 : Int) ^ n) ∣ (2 : Int) ^ 64 := ⟨(2 : Int) ^ (64 - n), by rw [← Int.pow_add]; congr 1; omega⟩
    exact Int.emod_emod_of_dvd v this
  have hp : (0 : Int) < (2 : Int) ^ n := by omega
  have b1 := Int.emod_nonneg v (show (2 : Int) ^ n ≠ 0 by omega)
  have b2 := Int.emod_lt_of_pos v hp
  unfold band
  have : IntKind.i64.bits = 64 := rfl
  rw [this, e4]
  exact i64s (by omega) (by omega)
theorem bor_s {a b n : Nat} (ha : a < 2 ^ n) (hb : a + 2 ^ n * b < 2 ^ 62) : bor .i64 (a : Int) ((2 ^ n * b : Nat) : Int) = ((a + 2 ^ n * b : Nat) : Int) := by
  unfold bor
  have e0 : IntKind.i64.bits = 64 := rfl
  have h64 : (2 : Nat) ^ 62 < 2 ^ 64 := by decide
  have e1 : (BitVec.ofInt 64 (a : Int)).toNat = a := by
    rw [BitVec.ofInt_natCast, BitVec.toNat_ofNat]; exact Nat.mod_eq_of_lt (by omega)
  have e2 : (BitVec.ofInt 64 ((2 ^ n * b : Nat) : Int)).toNat = 2 ^ n * b := by
    rw [BitVec.ofInt_natCast, BitVec.toNat_ofNat]; exact Nat.mod_eq_of_lt (by omega)
  rw [e0, BitVec.toNat_or, e1, e2, Nat.or_comm, ← Nat.two_pow_add_eq_or_of_lt ha, Nat.add_comm]
  have h62 : (2 : Nat) ^ 62 = 4611686018427387904 := by decide
  exact i64s (by omega) (by omega)
end Go.Vx

namespace Go.Vx
open Go Go.RowKit
theorem ofI64 {a : Nat} (h : a < 9223372036854775808) : (BitVec.ofInt 64 (a : Int)).toNat = a := by
  rw [BitVec.ofInt_natCast, BitVec.toNat_ofNat]; exact Nat.mod_eq_of_lt (by omega)
theorem band_n {a b : Nat} (ha : a < 9223372036854775808) (hb : b < 9223372036854775808) : band .i64 (a : Int) (b : Int) = ((a &&& b : Nat) : Int) := by
  unfold band
  have e0 : IntKind.i64.bits = 64 := rfl
  rw [e0, BitVec.toNat_and, ofI64 ha, ofI64 hb]
  have := Nat.and_le_left (n := a) (m := b)
  exact i64s (by omega) (by omega)
theorem bxor_n {a b : Nat} (ha : a < 9223372036854775808) (hb : b < 9223372036854775808) : bxor .i64 (a : Int) (b : Int) = ((a ^^^ b : Nat) : Int) := by
  unfold bxor
  have e0 : IntKind.i64.bits = 64 := rfl
  rw [e0, BitVec.toNat_xor, ofI64 ha, ofI64 hb]
  have : a ^^^ b < 2 ^ 63 := Nat.xor_lt_two_pow (by omega) (by omega)
  exact i64s (by omega) (by omega)
def restB : BitVec 22 := 2097167#22
def zS (v : BitVec 22) : BitVec 22 := (v <<< 1) ^^^ (if v.msb then restB else 0#22)
theorem zS_xor (a b : BitVec 22) : zS (a ^^^ b) = zS a ^^^ zS b := by
  have e1 : ∀ x y r : BitVec 22, (x ^^^ r) ^^^ (y ^^^ r) = x ^^^ y := fun x y r => by
    rw [BitVec.xor_assoc, BitVec.xor_comm y r, ← BitVec.xor_assoc r r y, BitVec.xor_self, BitVec.zero_xor]
  have e2 : ∀ x y r : BitVec 22, (x ^^^ r) ^^^ y = (x ^^^ y) ^^^ r := fun x y r => by
    rw [BitVec.xor_assoc, BitVec.xor_comm r y, ← BitVec.xor_assoc]
  unfold zS
  rw [BitVec.shiftLeft_xor_distrib, BitVec.msb_xor]
  cases a.msb <;> cases b.msb
  · simp
  · simp [BitVec.xor_assoc]
  · simp [e2]
  · simp [e1]
def pS (b : Nat → Bool) : Nat → BitVec 22
  | 0 => 0#22
  | k + 1 => zS (pS b k) ^^^ (if b k then restB else 0#22)
def rS (b : Nat → Bool) : Nat → BitVec 22
  | 0 => 0#22
  | k + 1 => zS (rS b k) ^^^ (if b k then 1#22 else 0#22)
def zI : Nat → BitVec 22 → BitVec 22
  | 0, v => v
  | k + 1, v => zS (zI k v)
theorem zI_xor (k : Nat) (a b : BitVec 22) : zI k (a ^^^ b) = zI k a ^^^ zI k b := by
  induction k with
  | zero => rfl
  | succ k ih => simp only [zI, ih, zS_xor]
theorem zI_zS (k : Nat) (v : BitVec 22) : zI k (zS v) = zS (zI k v) := by
  induction k with
  | zero => rfl
  | succ k ih => simp only [zI, ih]
theorem zI_one : zI 22 1#22 = restB := by decide
theorem zI_zero : zI 22 0#22 = 0#22 := by decide
theorem pS_rS (b : Nat → Bool) : ∀ k, pS b k = zI 22 (rS b k)
  | 0 => zI_zero.symm
  | k + 1 => by
    rw [pS, rS, zI_xor, zI_zS, pS_rS b k]
    congr 1
    cases b k
    · exact zI_zero.symm
    · exact zI_one.symm
theorem rS_tail {b : Nat → Bool} {n : Nat} (h : ∀ k, n ≤ k → b k = false) : ∀ j, rS b (n + j) = zI j (rS b n)
  | 0 => rfl
  | j + 1 => by
    rw [← Nat.add_assoc, rS, rS_tail h j, h _ (by omega)]
    simp [zI]
theorem crc_eq {b : Nat → Bool} {n : Nat} (h : ∀ k, n ≤ k → b k = false) : rS b (n + 22) = pS b n := by rw [rS_tail h, pS_rS]
theorem msb_w (v : BitVec 22) : decide (band .i64 (v.toNat : Int) 2097152 = 0) = !v.msb := by
  have := v.isLt
  rw [show (2097152 : Int) = ((2097152 : Nat) : Int) from rfl, band_n (by omega) (by omega)]
  rw [show (2097152 : Nat) = 2 ^ 21 from rfl]
  have e : v.msb = v.toNat.testBit 21 := by rw [BitVec.msb_eq_getLsbD_last]; rfl
  rw [e]
  have e2 : (v.toNat &&& 2 ^ 21).testBit 21 = v.toNat.testBit 21 := by rw [Nat.testBit_and, Nat.testBit_two_pow_self, Bool.and_true]
  cases hb : v.toNat.testBit 21
  · have : v.toNat &&& 2 ^ 21 = 0 := by
      refine Nat.eq_of_testBit_eq fun i => ?_
      rw [Nat.testBit_and, Nat.testBit_two_pow]
      by_cases h : 21 = i
      · subst h; rw [hb]; simp
      · simp [h]
    rw [this]; rfl
  · have : v.toNat &&& 2 ^ 21 ≠ 0 := fun h => by rw [h, Nat.zero_testBit, hb] at e2; cases e2
    have : ((v.toNat &&& 2 ^ 21 : Nat) : Int) ≠ 0 := by omega
    simp only [this, decide_false, Bool.not_true]
theorem shl_w (v : BitVec 22) : shl .i64 (v.toNat : Int) 1 = some ((v.toNat : Int) * 2) := by
  have := v.isLt
  unfold shl
  rw [if_neg (by decide)]
  congr 1
  have e : (2 : Int) ^ min (Int.toNat 1) IntKind.i64.bits = 2 := rfl
  rw [e]
  exact i64s (by omega) (by omega)
theorem shm_w (v : BitVec 22) : band .i64 ((v.toNat : Int) * 2) 4194303 = ((v <<< 1).toNat : Int) := by
  have e : (4194303 : Int) = (2 : Int) ^ 22 - 1 := by decide
  rw [e, and_mask (n := 22) (by decide), BitVec.toNat_shiftLeft, Nat.shiftLeft_eq]
  rw [Int.natCast_emod, Int.natCast_mul]
  rfl
theorem xr_w (v : BitVec 22) : bxor .i64 (v.toNat : Int) 2097167 = ((v ^^^ restB).toNat : Int) := by
  have := v.isLt
  rw [show (2097167 : Int) = ((2097167 : Nat) : Int) from rfl, bxor_n (by omega) (by omega), BitVec.toNat_xor]
  rfl
theorem pS_step (v : BitVec 22) (b : Bool) : zS v ^^^ (if b then restB else 0#22) = if (!(v.msb == b)) = true then (v <<< 1) ^^^ restB else v <<< 1 := by
  unfold zS
  cases v.msb <;> cases b
  · simp
  · simp
  · simp
  · simp [BitVec.xor_assoc]
theorem even_xor (m : Nat) : (2 * m) ^^^ 1 = 2 * m + 1 := by
  have h1 : ((2 * m) ^^^ 1) % 2 ^ 1 = (2 * m) % 2 ^ 1 ^^^ 1 % 2 ^ 1 := Nat.xor_mod_two_pow
  have h2 : ((2 * m) ^^^ 1) / 2 ^ 1 = (2 * m) / 2 ^ 1 ^^^ 1 / 2 ^ 1 := Nat.xor_div_two_pow
  rw [show (2 * m) % 2 ^ 1 = 0 by omega, show 1 % 2 ^ 1 = 1 from rfl, Nat.zero_xor] at h1
  rw [show (2 * m) / 2 ^ 1 = m by omega, show 1 / 2 ^ 1 = 0 from rfl, Nat.xor_zero] at h2
  omega
theorem rS_step (v : BitVec 22) (b : Bool) : let R : Nat := 2 * v.toNat + b.toNat
    (if 4194304 ≤ R then R ^^^ 6291471 else R) = (zS v ^^^ (if b then 1#22 else 0#22)).toNat := by
  intro R
  have hv := v.isLt
  have hb : b.toNat ≤ 1 := by cases b <;> decide
  have hm : v.msb = decide (2097152 ≤ v.toNat) := by
    rw [BitVec.msb_eq_decide]
  have es : (v <<< 1).toNat = (2 * v.toNat) % 4194304 := by rw [BitVec.toNat_shiftLeft, Nat.shiftLeft_eq]; congr 1; omega
  obtain ⟨s, hs⟩ : ∃ s, (v <<< 1).toNat = 2 * s := ⟨(v <<< 1).toNat / 2, by omega⟩
  have e1 : ∀ u : BitVec 22, ((v <<< 1) ^^^ u ^^^ (if b then 1#22 else 0#22)).toNat = ((v <<< 1).toNat + b.toNat) ^^^ u.toNat := fun u => by
    rw [BitVec.toNat_xor, BitVec.toNat_xor, hs]
    cases b
    · simp
    · simp only [if_true, Bool.toNat_true]
      rw [← even_xor, Nat.xor_assoc, Nat.xor_comm u.toNat, ← Nat.xor_assoc]; rfl
  unfold zS
  by_cases h : 2097152 ≤ v.toNat
  · rw [if_pos (by omega), hm, decide_eq_true h, if_pos rfl, e1]
    have h1 : (R ^^^ 6291471) % 2 ^ 22 = R % 2 ^ 22 ^^^ 6291471 % 2 ^ 22 := Nat.xor_mod_two_pow
    have h2 : (R ^^^ 6291471) / 2 ^ 22 = R / 2 ^ 22 ^^^ 6291471 / 2 ^ 22 := Nat.xor_div_two_pow
    have h3 : R / 2 ^ 22 = 1 := by omega
    have h4 : R % 2 ^ 22 = (v <<< 1).toNat + b.toNat := by omega
    rw [h3, show 6291471 / 2 ^ 22 = 1 from rfl, Nat.xor_self] at h2
    rw [h4, show 6291471 % 2 ^ 22 = restB.toNat from rfl] at h1
    omega
  · rw [if_neg (by omega), hm, decide_eq_false h, if_neg (by decide), e1]
    simp only [BitVec.toNat_ofNat, Nat.zero_mod, Nat.xor_zero]
    omega
end Go.Vx

namespace Go.Vx
open Go Go.RowKit
def wf_api_Piece (x : api_Piece) : Prop := (wfL (wfI .u8)) x.Bytes ∧ wfT x.Half ∧ True
end Go.Vx

namespace Go.Vx
open Go Go.RowKit
def cloop {σ ρ : Type} (b : σ → Option (σ ⊕ ρ)) (s : σ) : Option ρ :=
  Nat.rec (motive := fun _ => σ → Option ρ) (fun _ => none) (fun _ ih s => match b s with | none => none | some (.inl s') => ih s' | some (.inr r) => some r) 1000000 s
def Le {α : Type} (a b : Option α) : Prop := ∀ r, a = some r → b = some r
theorem Le.refl {α : Type} (a : Option α) : Le a a := fun _ h => h
section
variable {α β γ δ ε ζ η θ ι κ σ ρ : Type}
theorem Le.bind {a b : Option α} {f g : α → Option β} (h : Le a b) (hf : ∀ x, Le (f x) (g x)) : Le (a.bind f) (b.bind g) := by
  intro r hr
  cases ha : a with
  | none => rw [ha] at hr; cases hr
  | some x => rw [ha] at hr; rw [h x ha]; exact hf x r hr
theorem Le.ite {c : Prop} [Decidable c] {a b a' b' : Option α} (h1 : Le a a') (h2 : Le b b') : Le (if c then a else b) (if c then a' else b') := by
  split
  · exact h1
  · exact h2
theorem Le.gd {g : Bool} {d : α} {a b : Option α} (h : Le a b) : Le (gd g d a) (gd g d b) := by
  cases g
  · exact fun r hr => hr
  · exact h
theorem Le.loop {b b' : σ → Option (σ ⊕ ρ)} {s : σ} (h : ∀ s, Le (b s) (b' s)) : Le (cloop b s) (loop b' s) := by
  have key : ∀ n s r, Nat.rec (motive := fun _ => σ → Option ρ) (fun _ => none) (fun _ ih s => match b s with | none => none | some (.inl s') => ih s' | some (.inr r) => some r) n s = some r → iter b' n s = some r := by
    intro n
    induction n with
    | zero => intro s r hr; cases hr
    | succ n ih =>
      intro s r hr
      simp only at hr
      cases hb : b s with
      | none => rw [hb] at hr; cases hr
      | some o =>
        rw [hb] at hr
        simp only [iter, h s o hb, Option.bind_some]
        cases o with
        | inl s' => exact ih s' r hr
        | inr r' => exact hr
  intro r hr
  exact loop_of (key 1000000 s r hr)
theorem Le.t0 {f g : Option κ} {p : Unit} (h : Le f g) : Le (t0 f p) (t0 g p) := h
theorem Le.t1 {f g : α → Option κ} {p : α} (h : ∀ a, Le (f a) (g a)) : Le (t1 f p) (t1 g p) := h _
theorem Le.t2 {f g : α → β → Option κ} {p : α × β} (h : ∀ a b, Le (f a b) (g a b)) : Le (t2 f p) (t2 g p) := h _ _
theorem Le.t3 {f g : α → β → γ → Option κ} {p : α × β × γ} (h : ∀ a b c, Le (f a b c) (g a b c)) : Le (t3 f p) (t3 g p) := h _ _ _
theorem Le.t4 {f g : α → β → γ → δ → Option κ} {p : α × β × γ × δ} (h : ∀ a b c d, Le (f a b c d) (g a b c d)) : Le (t4 f p) (t4 g p) := h _ _ _ _
theorem Le.t5 {f g : α → β → γ → δ → ε → Option κ} {p : α × β × γ × δ × ε} (h : ∀ a b c d e, Le (f a b c d e) (g a b c d e)) : Le (t5 f p) (t5 g p) := h _ _ _ _ _
theorem Le.t6 {f g : α → β → γ → δ → ε → ζ → Option κ} {p : α × β × γ × δ × ε × ζ} (h : ∀ a b c d e x, Le (f a b c d e x) (g a b c d e x)) : Le (t6 f p) (t6 g p) := h _ _ _ _ _ _
theorem Le.t7 {f g : α → β → γ → δ → ε → ζ → η → Option κ} {p : α × β × γ × δ × ε × ζ × η} (h : ∀ a b c d e x y, Le (f a b c d e x y) (g a b c d e x y)) : Le (t7 f p) (t7 g p) := h _ _ _ _ _ _ _
theorem Le.t8 {f g : α → β → γ → δ → ε → ζ → η → θ → Option κ} {p : α × β × γ × δ × ε × ζ × η × θ} (h : ∀ a b c d e x y z, Le (f a b c d e x y z) (g a b c d e x y z)) : Le (t8 f p) (t8 g p) := h _ _ _ _ _ _ _ _
theorem Le.elim {f f' : α → Option κ} {g g' : β → Option κ} {s : α ⊕ β} (h1 : ∀ a, Le (f a) (f' a)) (h2 : ∀ b, Le (g b) (g' b)) : Le (Sum.elim f g s) (Sum.elim f' g' s) := by
  cases s with
  | inl a => exact h1 a
  | inr b => exact h2 b
end
end Go.Vx

namespace Go.Vx
open Go Go.RowKit
def sortC : List Int → Option (List Int)
  | [x] => some [x]
  | _ => none
theorem le_sortJ (xs : List Int) : Le (sortC xs) (sortJ xs) := by
  intro r h
  match xs, h with
  | [x], h => cases h; unfold sortJ; rw [if_pos (by simp), List.mergeSort_singleton]
end Go.Vx

namespace Go.Vx
open Go Go.RowKit
set_option linter.unusedVariables false

noncomputable def ref1_New_L1_c (data : List Int) (f2 : Vector Int 64) (i : Int) : Option (((Vector Int 64) × Int) ⊕ ((Vector Int 64) × Int) ⊕ ((Vector Int 64))) :=
  if (decide (i < (data.length : Int))) = true then
  (idx data i).bind fun x3 =>
  if ((decide (x3 < 0)) || (decide (2047 < x3))) = true then
  some (.inr (.inl ((#v[0, 0, 0, 0, 0, 0, 0, 0, 0, 0, 0, 0, 0, 0, 0, 0, 0, 0, 0, 0, 0, 0, 0, 0, 0, 0, 0, 0, 0, 0, 0, 0, 0, 0, 0, 0, 0, 0, 0, 0, 0, 0, 0, 0, 0, 0, 0, 0, 0, 0, 0, 0, 0, 0, 0, 0, 0, 0, 0, 0, 0, 0, 0, 0] : Vector Int 64), 9)))
  else
  (vidx f2 (i64 (3 + i))).bind fun x4 =>
  some (.inl ((vset f2 (i64 (3 + i)) (u16 x3)), (i64 (i + 1))))
  else
  some (.inr (.inr f2))
theorem le_ref1_New_L1 (data : List Int) (f2 : Vector Int 64) (i : Int) : Le (ref1_New_L1_c data f2 i) (ref1_New_L1 data f2 i) := by
  unfold ref1_New_L1_c ref1_New_L1
  with_reducible repeat' (first | exact Le.refl _ | apply Le.bind | apply Le.ite | intro _)

noncomputable def ref1_odd_L1_c (n2 : Int) (ones2 : Int) : Option ((Int × Int) ⊕ (Int)) :=
  if (decide (0 < n2)) = true then
  (rem n2 2).bind fun q =>
  (quo .i64 n2 2).bind fun q2 =>
  some (.inl (q2, (i64 (ones2 + q))))
  else
  some (.inr ones2)
theorem le_ref1_odd_L1 (n2 : Int) (ones2 : Int) : Le (ref1_odd_L1_c n2 ones2) (ref1_odd_L1 n2 ones2) := by
  unfold ref1_odd_L1_c ref1_odd_L1
  with_reducible repeat' (first | exact Le.refl _ | apply Le.bind | apply Le.ite | intro _)

noncomputable def ref1_odd_c (n : Int) : Option Bool :=
  ((cloop (t2 (ref1_odd_L1_c)) (n, 0)) : Option ((Int))).bind (t1 fun (ones : Int) =>
  (rem ones 2).bind fun q3 =>
  some (decide (q3 = 1)))
theorem le_ref1_odd (n : Int) : Le (ref1_odd_c n) (ref1_odd n) := by
  unfold ref1_odd_c ref1_odd
  with_reducible repeat' (first | exact Le.refl _ | apply Le.bind | apply Le.loop | apply Le.t1 | apply Le.t2 | apply le_ref1_odd_L1 | intro _)

noncomputable def ref1_word_c (data : Int) : Option Int :=
  (ref1_odd_c data).bind fun y =>
  if y = true then
  some data
  else
  some (i64 (data + 2048))
theorem le_ref1_word (data : Int) : Le (ref1_word_c data) (ref1_word data) := by
  unfold ref1_word_c ref1_word
  with_reducible repeat' (first | exact Le.refl _ | apply Le.bind | apply Le.ite | apply le_ref1_odd | intro _)

noncomputable def ref1_sealed_L1_c (f3 : Vector Int 64) (i : Int) : Option (((Vector Int 64) × Int) ⊕ ((Vector Int 64))) :=
  if (decide (i ≤ 60)) = true then
  (vidx f3 i).bind fun x =>
  (rem (i64 x) 2048).bind fun q =>
  (ref1_word_c q).bind fun y =>
  (vidx f3 i).bind fun x2 =>
  some (.inl ((vset f3 i (u16 y)), (i64 (i + 1))))
  else
  some (.inr f3)
theorem le_ref1_sealed_L1 (f3 : Vector Int 64) (i : Int) : Le (ref1_sealed_L1_c f3 i) (ref1_sealed_L1 f3 i) := by
  unfold ref1_sealed_L1_c ref1_sealed_L1
  with_reducible repeat' (first | exact Le.refl _ | apply Le.bind | apply Le.ite | apply le_ref1_word | intro _)

noncomputable def ref1_numberOf_c (f : Vector Int 64) : Option Int :=
  (vidx f 1).bind fun x =>
  (rem (i64 x) 2048).bind fun q =>
  (vidx f 2).bind fun x2 =>
  (rem (i64 x2) 2048).bind fun q2 =>
  some (i64 (q + (i64 (q2 * 2048))))
theorem le_ref1_numberOf (f : Vector Int 64) : Le (ref1_numberOf_c f) (ref1_numberOf f) := by
  unfold ref1_numberOf_c ref1_numberOf
  with_reducible repeat' (first | exact Le.refl _ | apply Le.bind | intro _)

noncomputable def ref1_syncOf_c (number : Int) : Option Int :=
  (rem number 4).bind fun q =>
  (vidx (#v[583, 1464, 2631, 3512] : Vector Int 4) q).bind fun x =>
  some x
theorem le_ref1_syncOf (number : Int) : Le (ref1_syncOf_c number) (ref1_syncOf number) := by
  unfold ref1_syncOf_c ref1_syncOf
  with_reducible repeat' (first | exact Le.refl _ | apply Le.bind | intro _)

noncomputable def ref1_sum_L1_c (f : Vector Int 64) (x2 : Int) (i : Int) : Option ((Int × Int) ⊕ (Int)) :=
  if (decide (i ≤ 60)) = true then
  (vidx f i).bind fun x3 =>
  (rem (i64 x3) 2048).bind fun q =>
  some (.inl ((bxor .i64 x2 q), (i64 (i + 1))))
  else
  some (.inr x2)
theorem le_ref1_sum_L1 (f : Vector Int 64) (x2 : Int) (i : Int) : Le (ref1_sum_L1_c f x2 i) (ref1_sum_L1 f x2 i) := by
  unfold ref1_sum_L1_c ref1_sum_L1
  with_reducible repeat' (first | exact Le.refl _ | apply Le.bind | apply Le.ite | intro _)

noncomputable def ref1_sum_c (f : Vector Int 64) : Option Int :=
  ((cloop (t2 (ref1_sum_L1_c f)) (0, 1)) : Option ((Int))).bind (t1 fun (x : Int) =>
  some x)
theorem le_ref1_sum (f : Vector Int 64) : Le (ref1_sum_c f) (ref1_sum f) := by
  unfold ref1_sum_c ref1_sum
  with_reducible repeat' (first | exact Le.refl _ | apply Le.bind | apply Le.loop | apply Le.t1 | apply Le.t2 | apply le_ref1_sum_L1 | intro _)

noncomputable def ref1_check_L1_c (f : Vector Int 64) (rest2 : Int) (i : Int) : Option ((Int × Int) ⊕ (Int)) :=
  if (decide (i < 766)) = true then
  ((if (decide (i < 744)) = true then
  (quo .i64 i 12).bind fun q =>
  (vidx f q).bind fun x =>
  (rem i 12).bind fun q2 =>
  (shr .i64 (i64 x) (i64 (11 - q2))).bind fun q3 =>
  some (band .i64 q3 1)
  else
  some 0) : Option ((Int))).bind (t1 fun (bit : Int) =>
  if (decide (4194304 ≤ (i64 ((i64 (rest2 * 2)) + bit)))) = true then
  some (.inl ((bxor .i64 (i64 ((i64 (rest2 * 2)) + bit)) 6291471), (i64 (i + 1))))
  else
  some (.inl ((i64 ((i64 (rest2 * 2)) + bit)), (i64 (i + 1)))))
  else
  some (.inr rest2)
theorem le_ref1_check_L1 (f : Vector Int 64) (rest2 : Int) (i : Int) : Le (ref1_check_L1_c f rest2 i) (ref1_check_L1 f rest2 i) := by
  unfold ref1_check_L1_c ref1_check_L1
  with_reducible repeat' (first | exact Le.refl _ | apply Le.bind | apply Le.ite | apply Le.t1 | intro _)

noncomputable def ref1_check_c (f : Vector Int 64) : Option Int :=
  ((cloop (t2 (ref1_check_L1_c f)) (0, 0)) : Option ((Int))).bind (t1 fun (rest : Int) =>
  some rest)
theorem le_ref1_check (f : Vector Int 64) : Le (ref1_check_c f) (ref1_check f) := by
  unfold ref1_check_c ref1_check
  with_reducible repeat' (first | exact Le.refl _ | apply Le.bind | apply Le.loop | apply Le.t1 | apply Le.t2 | apply le_ref1_check_L1 | intro _)

noncomputable def ref1_checked_c (f : Vector Int 64) : Option (Vector Int 64) :=
  (ref1_check_c f).bind fun y =>
  (quo .i64 y 2048).bind fun q =>
  (ref1_word_c q).bind fun y2 =>
  (rem y 2048).bind fun q2 =>
  (ref1_word_c q2).bind fun y3 =>
  (vidx f 62).bind fun x =>
  (vidx (vset f 62 (u16 y2)) 63).bind fun x2 =>
  some (vset (vset f 62 (u16 y2)) 63 (u16 y3))
theorem le_ref1_checked (f : Vector Int 64) : Le (ref1_checked_c f) (ref1_checked f) := by
  unfold ref1_checked_c ref1_checked
  with_reducible repeat' (first | exact Le.refl _ | apply Le.bind | apply le_ref1_check | apply le_ref1_word | intro _)

noncomputable def ref1_sealed_c (f : Vector Int 64) : Option (Vector Int 64) :=
  ((cloop (t2 (ref1_sealed_L1_c)) (f, 1)) : Option (((Vector Int 64)))).bind (t1 fun (f2 : Vector Int 64) =>
  (ref1_numberOf_c f2).bind fun y2 =>
  (ref1_syncOf_c y2).bind fun y3 =>
  (vidx f2 0).bind fun x3 =>
  (ref1_sum_c (vset f2 0 (u16 y3))).bind fun y4 =>
  (ref1_word_c y4).bind fun y5 =>
  (vidx (vset f2 0 (u16 y3)) 61).bind fun x4 =>
  (ref1_checked_c (vset (vset f2 0 (u16 y3)) 61 (u16 y5))).bind fun y6 =>
  some y6)
theorem le_ref1_sealed (f : Vector Int 64) : Le (ref1_sealed_c f) (ref1_sealed f) := by
  unfold ref1_sealed_c ref1_sealed
  with_reducible repeat' (first | exact Le.refl _ | apply Le.bind | apply Le.loop | apply Le.t1 | apply Le.t2 | apply le_ref1_sealed_L1 | apply le_ref1_numberOf | apply le_ref1_syncOf | apply le_ref1_sum | apply le_ref1_word | apply le_ref1_checked | intro _)

noncomputable def ref1_New_c (number : Int) (data : List Int) : Option ((Vector Int 64) × Int) :=
  if ((decide (number < 0)) || (decide (4194304 ≤ number))) = true then
  some ((#v[0, 0, 0, 0, 0, 0, 0, 0, 0, 0, 0, 0, 0, 0, 0, 0, 0, 0, 0, 0, 0, 0, 0, 0, 0, 0, 0, 0, 0, 0, 0, 0, 0, 0, 0, 0, 0, 0, 0, 0, 0, 0, 0, 0, 0, 0, 0, 0, 0, 0, 0, 0, 0, 0, 0, 0, 0, 0, 0, 0, 0, 0, 0, 0] : Vector Int 64), 9)
  else
  if (!decide ((data.length : Int) = 58)) = true then
  some ((#v[0, 0, 0, 0, 0, 0, 0, 0, 0, 0, 0, 0, 0, 0, 0, 0, 0, 0, 0, 0, 0, 0, 0, 0, 0, 0, 0, 0, 0, 0, 0, 0, 0, 0, 0, 0, 0, 0, 0, 0, 0, 0, 0, 0, 0, 0, 0, 0, 0, 0, 0, 0, 0, 0, 0, 0, 0, 0, 0, 0, 0, 0, 0, 0] : Vector Int 64), 3)
  else
  (rem number 2048).bind fun q =>
  (quo .i64 number 2048).bind fun q2 =>
  (vidx (#v[0, 0, 0, 0, 0, 0, 0, 0, 0, 0, 0, 0, 0, 0, 0, 0, 0, 0, 0, 0, 0, 0, 0, 0, 0, 0, 0, 0, 0, 0, 0, 0, 0, 0, 0, 0, 0, 0, 0, 0, 0, 0, 0, 0, 0, 0, 0, 0, 0, 0, 0, 0, 0, 0, 0, 0, 0, 0, 0, 0, 0, 0, 0, 0] : Vector Int 64) 1).bind fun x =>
  (vidx (vset (#v[0, 0, 0, 0, 0, 0, 0, 0, 0, 0, 0, 0, 0, 0, 0, 0, 0, 0, 0, 0, 0, 0, 0, 0, 0, 0, 0, 0, 0, 0, 0, 0, 0, 0, 0, 0, 0, 0, 0, 0, 0, 0, 0, 0, 0, 0, 0, 0, 0, 0, 0, 0, 0, 0, 0, 0, 0, 0, 0, 0, 0, 0, 0, 0] : Vector Int 64) 1 (u16 q)) 2).bind fun x2 =>
  ((cloop (t2 (ref1_New_L1_c data)) ((vset (vset (#v[0, 0, 0, 0, 0, 0, 0, 0, 0, 0, 0, 0, 0, 0, 0, 0, 0, 0, 0, 0, 0, 0, 0, 0, 0, 0, 0, 0, 0, 0, 0, 0, 0, 0, 0, 0, 0, 0, 0, 0, 0, 0, 0, 0, 0, 0, 0, 0, 0, 0, 0, 0, 0, 0, 0, 0, 0, 0, 0, 0, 0, 0, 0, 0] : Vector Int 64) 1 (u16 q)) 2 (u16 q2)), 0)) : Option (((Vector Int 64) × Int) ⊕ ((Vector Int 64)))).bind (Sum.elim (fun q' => some q') (t1 fun (f : Vector Int 64) =>
  (ref1_sealed_c f).bind fun y =>
  some (y, 0)))
theorem le_ref1_New (number : Int) (data : List Int) : Le (ref1_New_c number data) (ref1_New number data) := by
  unfold ref1_New_c ref1_New
  with_reducible repeat' (first | exact Le.refl _ | apply Le.bind | apply Le.ite | apply Le.loop | apply Le.t1 | apply Le.t2 | apply Le.elim | apply le_ref1_New_L1 | apply le_ref1_sealed | intro _)

noncomputable def ref1_Wide_L1_c (f : Vector Int 64) (i : Int) : Option ((Int) ⊕ (Bool) ⊕ (Unit)) :=
  if (decide (i < 64)) = true then
  (vidx f i).bind fun x =>
  if (decide (4095 < x)) = true then
  some (.inr (.inl true))
  else
  some (.inl (i64 (i + 1)))
  else
  some (.inr (.inr ()))
theorem le_ref1_Wide_L1 (f : Vector Int 64) (i : Int) : Le (ref1_Wide_L1_c f i) (ref1_Wide_L1 f i) := by
  unfold ref1_Wide_L1_c ref1_Wide_L1
  with_reducible repeat' (first | exact Le.refl _ | apply Le.bind | apply Le.ite | intro _)

noncomputable def ref1_Wide_c (f : Vector Int 64) : Option Bool :=
  ((cloop (t1 (ref1_Wide_L1_c f)) 0) : Option ((Bool) ⊕ (Unit))).bind (Sum.elim (fun q' => some q') (t0 (some false)))
theorem le_ref1_Wide (f : Vector Int 64) : Le (ref1_Wide_c f) (ref1_Wide f) := by
  unfold ref1_Wide_c ref1_Wide
  with_reducible repeat' (first | exact Le.refl _ | apply Le.bind | apply Le.loop | apply Le.t0 | apply Le.t1 | apply Le.elim | apply le_ref1_Wide_L1 | intro _)

noncomputable def ref1_Half_c (f : Vector Int 64) (n : Int) : Option Int :=
  (quo .i64 n 3).bind fun q =>
  (vidx f q).bind fun x =>
  (rem n 3).bind fun q2 =>
  (shr .i64 (i64 x) (i64 (8 - (i64 (q2 * 4))))).bind fun q3 =>
  some (band .i64 q3 15)
theorem le_ref1_Half (f : Vector Int 64) (n : Int) : Le (ref1_Half_c f n) (ref1_Half f n) := by
  unfold ref1_Half_c ref1_Half
  with_reducible repeat' (first | exact Le.refl _ | apply Le.bind | intro _)

noncomputable def ref1_bytes_L1_c (f : Vector Int 64) (l : List Int) (out2 : List Int) (i : Int) : Option (((List Int) × Int) ⊕ ((List Int))) :=
  if (decide (i < (l.length : Int))) = true then
  (ref1_Half_c f (i64 (2 * i))).bind fun y =>
  (ref1_Half_c f (i64 ((i64 (2 * i)) + 1))).bind fun y2 =>
  (idx out2 i).bind fun x =>
  some (.inl ((out2.set i.toNat (u8 (i64 ((i64 (16 * y)) + y2)))), (i64 (i + 1))))
  else
  some (.inr out2)
theorem le_ref1_bytes_L1 (f : Vector Int 64) (l : List Int) (out2 : List Int) (i : Int) : Le (ref1_bytes_L1_c f l out2 i) (ref1_bytes_L1 f l out2 i) := by
  unfold ref1_bytes_L1_c ref1_bytes_L1
  with_reducible repeat' (first | exact Le.refl _ | apply Le.bind | apply Le.ite | apply le_ref1_Half | intro _)

noncomputable def ref1_bytes_c (f : Vector Int 64) : Option (List Int) :=
  (mks 96 0).bind fun l =>
  ((cloop (t2 (ref1_bytes_L1_c f l)) (l, 0)) : Option (((List Int)))).bind (t1 fun (out : List Int) =>
  some out)
theorem le_ref1_bytes (f : Vector Int 64) : Le (ref1_bytes_c f) (ref1_bytes f) := by
  unfold ref1_bytes_c ref1_bytes
  with_reducible repeat' (first | exact Le.refl _ | apply Le.bind | apply Le.loop | apply Le.t1 | apply Le.t2 | apply le_ref1_bytes_L1 | intro _)

noncomputable def ref1_ToBytes_c (f : Vector Int 64) : Option ((List Int) × Int) :=
  (ref1_Wide_c f).bind fun y =>
  if y = true then
  some ([], 9)
  else
  (ref1_bytes_c f).bind fun y2 =>
  some (y2, 0)
theorem le_ref1_ToBytes (f : Vector Int 64) : Le (ref1_ToBytes_c f) (ref1_ToBytes f) := by
  unfold ref1_ToBytes_c ref1_ToBytes
  with_reducible repeat' (first | exact Le.refl _ | apply Le.bind | apply Le.ite | apply le_ref1_Wide | apply le_ref1_bytes | intro _)

noncomputable def salvage_CheckPiece_c (p : api_Piece) : Option Int :=
  if (decide (200000 < (p.Bytes.length : Int))) = true then
  some 3
  else
  (gd ((p.Half == true) && ((decide ((p.Bytes.length : Int) = 0)) == false)) 0 (idx p.Bytes 0)).bind fun x =>
  (gd ((p.Half == true) && ((decide ((p.Bytes.length : Int) = 0)) == false)) 0 (shr .u8 x 4)).bind fun q =>
  if (p.Half && ((decide ((p.Bytes.length : Int) = 0)) || (!decide (q = 0)))) = true then
  some 2
  else
  some 0
theorem le_salvage_CheckPiece (p : api_Piece) : Le (salvage_CheckPiece_c p) (salvage_CheckPiece p) := by
  unfold salvage_CheckPiece_c salvage_CheckPiece
  with_reducible repeat' (first | exact Le.refl _ | apply Le.bind | apply Le.ite | apply Le.gd | intro _)

noncomputable def salvage_Salvage_L1_c (l : List api_Piece) (i : Int) : Option ((Int) ⊕ ((List api_Rest) × Int) ⊕ (Unit)) :=
  if (decide (i < (l.length : Int))) = true then
  (idx l i).bind fun x =>
  (salvage_CheckPiece_c x).bind fun y =>
  if (!decide (y = 0)) = true then
  some (.inr (.inl ([], y)))
  else
  some (.inl (i64 (i + 1)))
  else
  some (.inr (.inr ()))
theorem le_salvage_Salvage_L1 (l : List api_Piece) (i : Int) : Le (salvage_Salvage_L1_c l i) (salvage_Salvage_L1 l i) := by
  unfold salvage_Salvage_L1_c salvage_Salvage_L1
  with_reducible repeat' (first | exact Le.refl _ | apply Le.bind | apply Le.ite | apply le_salvage_CheckPiece | intro _)

noncomputable def salvage_ahead_c (p : api_Piece) : Option Int :=
  if p.Half = true then
  some 1
  else
  some 0
theorem le_salvage_ahead (p : api_Piece) : Le (salvage_ahead_c p) (salvage_ahead p) := by
  unfold salvage_ahead_c salvage_ahead
  with_reducible repeat' (first | exact Le.refl _ | apply Le.bind | apply Le.ite | intro _)

noncomputable def salvage_length_c (p : api_Piece) : Option Int :=
  (salvage_ahead_c p).bind fun y =>
  some (i64 ((i64 (2 * (p.Bytes.length : Int))) - y))
theorem le_salvage_length (p : api_Piece) : Le (salvage_length_c p) (salvage_length p) := by
  unfold salvage_length_c salvage_length
  with_reducible repeat' (first | exact Le.refl _ | apply Le.bind | apply le_salvage_ahead | intro _)

noncomputable def salvage_halfOf_c (b : List Int) (i : Int) : Option Int :=
  (quo .i64 i 2).bind fun q =>
  (idx b q).bind fun x =>
  (rem i 2).bind fun q2 =>
  (shr .u8 x (i64 (4 - (i64 (4 * q2))))).bind fun q3 =>
  some (band .u8 q3 15)
theorem le_salvage_halfOf (b : List Int) (i : Int) : Le (salvage_halfOf_c b i) (salvage_halfOf b i) := by
  unfold salvage_halfOf_c salvage_halfOf
  with_reducible repeat' (first | exact Le.refl _ | apply Le.bind | intro _)

noncomputable def salvage_halves_L1_c (p : api_Piece) (l : List Int) (out2 : List Int) (i : Int) : Option (((List Int) × Int) ⊕ ((List Int))) :=
  if (decide (i < (l.length : Int))) = true then
  (salvage_ahead_c p).bind fun y2 =>
  (salvage_halfOf_c p.Bytes (i64 (i + y2))).bind fun y3 =>
  (idx out2 i).bind fun x =>
  some (.inl ((out2.set i.toNat y3), (i64 (i + 1))))
  else
  some (.inr out2)
theorem le_salvage_halves_L1 (p : api_Piece) (l : List Int) (out2 : List Int) (i : Int) : Le (salvage_halves_L1_c p l out2 i) (salvage_halves_L1 p l out2 i) := by
  unfold salvage_halves_L1_c salvage_halves_L1
  with_reducible repeat' (first | exact Le.refl _ | apply Le.bind | apply Le.ite | apply le_salvage_ahead | apply le_salvage_halfOf | intro _)

noncomputable def salvage_halves_c (p : api_Piece) : Option (List Int) :=
  (salvage_length_c p).bind fun y =>
  (mks y 0).bind fun l =>
  ((cloop (t2 (salvage_halves_L1_c p l)) (l, 0)) : Option (((List Int)))).bind (t1 fun (out : List Int) =>
  some out)
theorem le_salvage_halves (p : api_Piece) : Le (salvage_halves_c p) (salvage_halves p) := by
  unfold salvage_halves_c salvage_halves
  with_reducible repeat' (first | exact Le.refl _ | apply Le.bind | apply Le.loop | apply Le.t1 | apply Le.t2 | apply le_salvage_length | apply le_salvage_halves_L1 | intro _)

noncomputable def salvage_wordAt_c (h_ : List Int) : Option Int :=
  (idx h_ 0).bind fun x =>
  (shl .u16 (u16 x) 8).bind fun q =>
  (idx h_ 1).bind fun x2 =>
  (shl .u16 (u16 x2) 4).bind fun q2 =>
  (idx h_ 2).bind fun x3 =>
  some (bor .u16 (bor .u16 q q2) (u16 x3))
theorem le_salvage_wordAt (h_ : List Int) : Le (salvage_wordAt_c h_) (salvage_wordAt h_) := by
  unfold salvage_wordAt_c salvage_wordAt
  with_reducible repeat' (first | exact Le.refl _ | apply Le.bind | intro _)

noncomputable def frame_Sync_c (number : Int) : Option (Int × Int) :=
  if ((decide (number < 0)) || (decide (4194304 ≤ number))) = true then
  some (0, 9)
  else
  (rem number 4).bind fun q =>
  (vidx gv_frame_syncs q).bind fun x =>
  some ((i64 x), 0)
theorem le_frame_Sync (number : Int) : Le (frame_Sync_c number) (frame_Sync number) := by
  unfold frame_Sync_c frame_Sync
  with_reducible repeat' (first | exact Le.refl _ | apply Le.bind | apply Le.ite | intro _)

noncomputable def salvage_isSync_L1_c (w : Int) (i : Int) : Option ((Int) ⊕ (Bool) ⊕ (Unit)) :=
  if (decide (i < 4)) = true then
  (frame_Sync_c i).bind fun y =>
  if (decide ((u16 y.1) = w)) = true then
  some (.inr (.inl true))
  else
  some (.inl (i64 (i + 1)))
  else
  some (.inr (.inr ()))
theorem le_salvage_isSync_L1 (w : Int) (i : Int) : Le (salvage_isSync_L1_c w i) (salvage_isSync_L1 w i) := by
  unfold salvage_isSync_L1_c salvage_isSync_L1
  with_reducible repeat' (first | exact Le.refl _ | apply Le.bind | apply Le.ite | apply le_frame_Sync | intro _)

noncomputable def salvage_isSync_c (w : Int) : Option Bool :=
  ((cloop (t1 (salvage_isSync_L1_c w)) 0) : Option ((Bool) ⊕ (Unit))).bind (Sum.elim (fun q' => some q') (t0 (some false)))
theorem le_salvage_isSync (w : Int) : Le (salvage_isSync_c w) (salvage_isSync w) := by
  unfold salvage_isSync_c salvage_isSync
  with_reducible repeat' (first | exact Le.refl _ | apply Le.bind | apply Le.loop | apply Le.t0 | apply Le.t1 | apply Le.elim | apply le_salvage_isSync_L1 | intro _)

noncomputable def salvage_frameIn_L1_c (w : Vector Int 192) (f2 : Vector Int 64) (i : Int) : Option (((Vector Int 64) × Int) ⊕ ((Vector Int 64))) :=
  if (decide (i < 64)) = true then
  (slc w.toList (i64 (3 * i)) (i64 ((i64 (3 * i)) + 3))).bind fun l =>
  (salvage_wordAt_c l).bind fun y =>
  (vidx f2 i).bind fun x =>
  some (.inl ((vset f2 i y), (i64 (i + 1))))
  else
  some (.inr f2)
theorem le_salvage_frameIn_L1 (w : Vector Int 192) (f2 : Vector Int 64) (i : Int) : Le (salvage_frameIn_L1_c w f2 i) (salvage_frameIn_L1 w f2 i) := by
  unfold salvage_frameIn_L1_c salvage_frameIn_L1
  with_reducible repeat' (first | exact Le.refl _ | apply Le.bind | apply Le.ite | apply le_salvage_wordAt | intro _)

noncomputable def salvage_frameIn_c (w : Vector Int 192) : Option (Vector Int 64) :=
  ((cloop (t2 (salvage_frameIn_L1_c w)) ((Vector.replicate 64 0), 0)) : Option (((Vector Int 64)))).bind (t1 fun (f : Vector Int 64) =>
  some f)
theorem le_salvage_frameIn (w : Vector Int 192) : Le (salvage_frameIn_c w) (salvage_frameIn w) := by
  unfold salvage_frameIn_c salvage_frameIn
  with_reducible repeat' (first | exact Le.refl _ | apply Le.bind | apply Le.loop | apply Le.t1 | apply Le.t2 | apply le_salvage_frameIn_L1 | intro _)

noncomputable def frame_wide_L1_c (f : Vector Int 64) (i : Int) : Option ((Int) ⊕ (Bool) ⊕ (Unit)) :=
  if (decide (i < 64)) = true then
  (vidx f i).bind fun x =>
  if (decide (4095 < x)) = true then
  some (.inr (.inl true))
  else
  some (.inl (i64 (i + 1)))
  else
  some (.inr (.inr ()))
theorem le_frame_wide_L1 (f : Vector Int 64) (i : Int) : Le (frame_wide_L1_c f i) (frame_wide_L1 f i) := by
  unfold frame_wide_L1_c frame_wide_L1
  with_reducible repeat' (first | exact Le.refl _ | apply Le.bind | apply Le.ite | intro _)

noncomputable def frame_wide_c (f : Vector Int 64) : Option Bool :=
  ((cloop (t1 (frame_wide_L1_c f)) 0) : Option ((Bool) ⊕ (Unit))).bind (Sum.elim (fun q' => some q') (t0 (some false)))
theorem le_frame_wide (f : Vector Int 64) : Le (frame_wide_c f) (frame_wide f) := by
  unfold frame_wide_c frame_wide
  with_reducible repeat' (first | exact Le.refl _ | apply Le.bind | apply Le.loop | apply Le.t0 | apply Le.t1 | apply Le.elim | apply le_frame_wide_L1 | intro _)

noncomputable def frame_data_c (w : Int) : Option Int :=
  some (i64 (band .u16 w 2047))
theorem le_frame_data (w : Int) : Le (frame_data_c w) (frame_data w) := by
  unfold frame_data_c frame_data
  with_reducible repeat' (first | exact Le.refl _ | apply Le.bind | intro _)

noncomputable def frame_numberOf_c (f : Vector Int 64) : Option Int :=
  (vidx f 1).bind fun x =>
  (frame_data_c x).bind fun y =>
  (vidx f 2).bind fun x2 =>
  (frame_data_c x2).bind fun y2 =>
  (shl .i64 y2 11).bind fun q =>
  some (bor .i64 y q)
theorem le_frame_numberOf (f : Vector Int 64) : Le (frame_numberOf_c f) (frame_numberOf f) := by
  unfold frame_numberOf_c frame_numberOf
  with_reducible repeat' (first | exact Le.refl _ | apply Le.bind | apply le_frame_data | intro _)

noncomputable def frame_sumOf_L1_c (f : Vector Int 64) (n2 : Int) (i : Int) : Option ((Int × Int) ⊕ (Int)) :=
  if (decide (i < 60)) = true then
  (vidx f (i64 (i + 1))).bind fun x =>
  (frame_data_c x).bind fun y =>
  some (.inl ((bxor .i64 n2 y), (i64 (i + 1))))
  else
  some (.inr n2)
theorem le_frame_sumOf_L1 (f : Vector Int 64) (n2 : Int) (i : Int) : Le (frame_sumOf_L1_c f n2 i) (frame_sumOf_L1 f n2 i) := by
  unfold frame_sumOf_L1_c frame_sumOf_L1
  with_reducible repeat' (first | exact Le.refl _ | apply Le.bind | apply Le.ite | apply le_frame_data | intro _)

noncomputable def frame_sumOf_c (f : Vector Int 64) : Option Int :=
  ((cloop (t2 (frame_sumOf_L1_c f)) (0, 0)) : Option ((Int))).bind (t1 fun (n : Int) =>
  some n)
theorem le_frame_sumOf (f : Vector Int 64) : Le (frame_sumOf_c f) (frame_sumOf f) := by
  unfold frame_sumOf_c frame_sumOf
  with_reducible repeat' (first | exact Le.refl _ | apply Le.bind | apply Le.loop | apply Le.t1 | apply Le.t2 | apply le_frame_sumOf_L1 | intro _)

noncomputable def bits_OnesCount16_c (x : Int) : Option Int :=
  (shr .u16 x 8).bind fun q =>
  (sidx [0, 1, 1, 2, 1, 2, 2, 3, 1, 2, 2, 3, 2, 3, 3, 4, 1, 2, 2, 3, 2, 3, 3, 4, 2, 3, 3, 4, 3, 4, 4, 5, 1, 2, 2, 3, 2, 3, 3, 4, 2, 3, 3, 4, 3, 4, 4, 5, 2, 3, 3, 4, 3, 4, 4, 5, 3, 4, 4, 5, 4, 5, 5, 6, 1, 2, 2, 3, 2, 3, 3, 4, 2, 3, 3, 4, 3, 4, 4, 5, 2, 3, 3, 4, 3, 4, 4, 5, 3, 4, 4, 5, 4, 5, 5, 6, 2, 3, 3, 4, 3, 4, 4, 5, 3, 4, 4, 5, 4, 5, 5, 6, 3, 4, 4, 5, 4, 5, 5, 6, 4, 5, 5, 6, 5, 6, 6, 7, 1, 2, 2, 3, 2, 3, 3, 4, 2, 3, 3, 4, 3, 4, 4, 5, 2, 3, 3, 4, 3, 4, 4, 5, 3, 4, 4, 5, 4, 5, 5, 6, 2, 3, 3, 4, 3, 4, 4, 5, 3, 4, 4, 5, 4, 5, 5, 6, 3, 4, 4, 5, 4, 5, 5, 6, 4, 5, 5, 6, 5, 6, 6, 7, 2, 3, 3, 4, 3, 4, 4, 5, 3, 4, 4, 5, 4, 5, 5, 6, 3, 4, 4, 5, 4, 5, 5, 6, 4, 5, 5, 6, 5, 6, 6, 7, 3, 4, 4, 5, 4, 5, 5, 6, 4, 5, 5, 6, 5, 6, 6, 7, 4, 5, 5, 6, 5, 6, 6, 7, 5, 6, 6, 7, 6, 7, 7, 8] q).bind fun b =>
  (sidx [0, 1, 1, 2, 1, 2, 2, 3, 1, 2, 2, 3, 2, 3, 3, 4, 1, 2, 2, 3, 2, 3, 3, 4, 2, 3, 3, 4, 3, 4, 4, 5, 1, 2, 2, 3, 2, 3, 3, 4, 2, 3, 3, 4, 3, 4, 4, 5, 2, 3, 3, 4, 3, 4, 4, 5, 3, 4, 4, 5, 4, 5, 5, 6, 1, 2, 2, 3, 2, 3, 3, 4, 2, 3, 3, 4, 3, 4, 4, 5, 2, 3, 3, 4, 3, 4, 4, 5, 3, 4, 4, 5, 4, 5, 5, 6, 2, 3, 3, 4, 3, 4, 4, 5, 3, 4, 4, 5, 4, 5, 5, 6, 3, 4, 4, 5, 4, 5, 5, 6, 4, 5, 5, 6, 5, 6, 6, 7, 1, 2, 2, 3, 2, 3, 3, 4, 2, 3, 3, 4, 3, 4, 4, 5, 2, 3, 3, 4, 3, 4, 4, 5, 3, 4, 4, 5, 4, 5, 5, 6, 2, 3, 3, 4, 3, 4, 4, 5, 3, 4, 4, 5, 4, 5, 5, 6, 3, 4, 4, 5, 4, 5, 5, 6, 4, 5, 5, 6, 5, 6, 6, 7, 2, 3, 3, 4, 3, 4, 4, 5, 3, 4, 4, 5, 4, 5, 5, 6, 3, 4, 4, 5, 4, 5, 5, 6, 4, 5, 5, 6, 5, 6, 6, 7, 3, 4, 4, 5, 4, 5, 5, 6, 4, 5, 5, 6, 5, 6, 6, 7, 4, 5, 5, 6, 5, 6, 6, 7, 5, 6, 6, 7, 6, 7, 7, 8] (band .u16 x 255)).bind fun b2 =>
  some (i64 (u8 (b + b2)))
theorem le_bits_OnesCount16 (x : Int) : Le (bits_OnesCount16_c x) (bits_OnesCount16 x) := by
  unfold bits_OnesCount16_c bits_OnesCount16
  with_reducible repeat' (first | exact Le.refl _ | apply Le.bind | intro _)

noncomputable def frame_odd_c (w : Int) : Option Bool :=
  (gd ((decide (w ≤ 4095)) == true) 0 (bits_OnesCount16_c w)).bind fun y =>
  (gd ((decide (w ≤ 4095)) == true) 0 (rem y 2)).bind fun q =>
  some ((decide (w ≤ 4095)) && (decide (q = 1)))
theorem le_frame_odd (w : Int) : Le (frame_odd_c w) (frame_odd w) := by
  unfold frame_odd_c frame_odd
  with_reducible repeat' (first | exact Le.refl _ | apply Le.bind | apply Le.gd | apply le_bits_OnesCount16 | intro _)

noncomputable def frame_sound_L1_c (f : Vector Int 64) (i : Int) : Option ((Int) ⊕ (Bool) ⊕ (Unit)) :=
  if (decide (i < 64)) = true then
  (vidx f i).bind fun x4 =>
  (frame_odd_c x4).bind fun y5 =>
  if (!y5) = true then
  some (.inr (.inl false))
  else
  some (.inl (i64 (i + 1)))
  else
  some (.inr (.inr ()))
theorem le_frame_sound_L1 (f : Vector Int 64) (i : Int) : Le (frame_sound_L1_c f i) (frame_sound_L1 f i) := by
  unfold frame_sound_L1_c frame_sound_L1
  with_reducible repeat' (first | exact Le.refl _ | apply Le.bind | apply Le.ite | apply le_frame_odd | intro _)

noncomputable def frame_checkOf_L2_c (f : Vector Int 64) (i : Int) (n4 : Int) (k : Int) : Option ((Int × Int) ⊕ (Int)) :=
  if (decide (0 ≤ k)) = true then
  (shl .i64 n4 1).bind fun q =>
  (vidx f i).bind fun x =>
  (shr .u16 x k).bind fun q2 =>
  if (!((!decide ((band .i64 n4 2097152) = 0)) == (decide ((band .u16 q2 1) = 1)))) = true then
  some (.inl ((bxor .i64 (band .i64 q 4194303) 2097167), (i64 (k - 1))))
  else
  some (.inl ((band .i64 q 4194303), (i64 (k - 1))))
  else
  some (.inr n4)
theorem le_frame_checkOf_L2 (f : Vector Int 64) (i : Int) (n4 : Int) (k : Int) : Le (frame_checkOf_L2_c f i n4 k) (frame_checkOf_L2 f i n4 k) := by
  unfold frame_checkOf_L2_c frame_checkOf_L2
  with_reducible repeat' (first | exact Le.refl _ | apply Le.bind | apply Le.ite | intro _)

noncomputable def frame_checkOf_L1_c (f : Vector Int 64) (n2 : Int) (i : Int) : Option ((Int × Int) ⊕ (Int)) :=
  if (decide (i < 62)) = true then
  ((cloop (t2 (frame_checkOf_L2_c f i)) (n2, 11)) : Option ((Int))).bind (t1 fun (n3 : Int) =>
  some (.inl (n3, (i64 (i + 1)))))
  else
  some (.inr n2)
theorem le_frame_checkOf_L1 (f : Vector Int 64) (n2 : Int) (i : Int) : Le (frame_checkOf_L1_c f n2 i) (frame_checkOf_L1 f n2 i) := by
  unfold frame_checkOf_L1_c frame_checkOf_L1
  with_reducible repeat' (first | exact Le.refl _ | apply Le.bind | apply Le.ite | apply Le.loop | apply Le.t1 | apply Le.t2 | apply le_frame_checkOf_L2 | intro _)

noncomputable def frame_checkOf_c (f : Vector Int 64) : Option Int :=
  ((cloop (t2 (frame_checkOf_L1_c f)) (0, 0)) : Option ((Int))).bind (t1 fun (n : Int) =>
  some n)
theorem le_frame_checkOf (f : Vector Int 64) : Le (frame_checkOf_c f) (frame_checkOf f) := by
  unfold frame_checkOf_c frame_checkOf
  with_reducible repeat' (first | exact Le.refl _ | apply Le.bind | apply Le.loop | apply Le.t1 | apply Le.t2 | apply le_frame_checkOf_L1 | intro _)

noncomputable def frame_sound_c (f : Vector Int 64) : Option Bool :=
  (frame_wide_c f).bind fun y =>
  (gd (y == false) 0 (vidx f 0)).bind fun x =>
  (gd (y == false) 0 (frame_numberOf_c f)).bind fun y2 =>
  (gd (y == false) 0 (rem y2 4)).bind fun q =>
  (gd (y == false) 0 (vidx gv_frame_syncs q)).bind fun x2 =>
  (gd ((y || (!decide (x = x2))) == false) 0 (vidx f 61)).bind fun x3 =>
  (gd ((y || (!decide (x = x2))) == false) 0 (frame_data_c x3)).bind fun y3 =>
  (gd ((y || (!decide (x = x2))) == false) 0 (frame_sumOf_c f)).bind fun y4 =>
  if ((y || (!decide (x = x2))) || (!decide (y3 = y4))) = true then
  some false
  else
  ((cloop (t1 (frame_sound_L1_c f)) 1) : Option ((Bool) ⊕ (Unit))).bind (Sum.elim (fun q' => some q') (t0 ((vidx f 62).bind fun x5 =>
  (frame_data_c x5).bind fun y6 =>
  (shl .i64 y6 11).bind fun q2 =>
  (vidx f 63).bind fun x6 =>
  (frame_data_c x6).bind fun y7 =>
  (frame_checkOf_c f).bind fun y8 =>
  some (decide ((bor .i64 q2 y7) = y8)))))
theorem le_frame_sound (f : Vector Int 64) : Le (frame_sound_c f) (frame_sound f) := by
  unfold frame_sound_c frame_sound
  with_reducible repeat' (first | exact Le.refl _ | apply Le.bind | apply Le.ite | apply Le.gd | apply Le.loop | apply Le.t0 | apply Le.t1 | apply Le.elim | apply le_frame_wide | apply le_frame_numberOf | apply le_frame_data | apply le_frame_sumOf | apply le_frame_sound_L1 | apply le_frame_checkOf | intro _)

noncomputable def frame_Sound_c (f : Vector Int 64) : Option Bool :=
  (frame_sound_c f).bind fun y =>
  some y
theorem le_frame_Sound (f : Vector Int 64) : Le (frame_Sound_c f) (frame_Sound f) := by
  unfold frame_Sound_c frame_Sound
  with_reducible repeat' (first | exact Le.refl _ | apply Le.bind | apply le_frame_sound | intro _)

noncomputable def salvage_scan_it_L1_c (h_ : List Int) (o : List api_Found) (at_ : Int) : Option (((List api_Found) × Int) ⊕ (List api_Found)) :=
  if (decide ((i64 (at_ + 192)) ≤ (h_.length : Int))) = true then
  (((slc h_ at_ (i64 (at_ + 3))).bind fun l =>
  (salvage_wordAt_c l).bind fun y =>
  (salvage_isSync_c y).bind fun y2 =>
  if (!y2) = true then
  some (.inr o)
  else
  (slc h_ at_ (i64 (at_ + 192))).bind fun l2 =>
  (tov 192 l2).bind fun v =>
  (salvage_frameIn_c v).bind fun y3 =>
  (frame_Sound_c y3).bind fun y4 =>
  if (y4 == true) = true then
  (app o [(api_Found.mk at_ y3)]).bind fun out2 =>
  if (!true) = true then
  some (.inl out2)
  else
  some (.inr out2)
  else
  if false = true then
  none
  else
  some (.inr o)) : Option ((List api_Found) ⊕ ((List api_Found)))).bind (Sum.elim (fun q' => some (.inr q')) (t1 fun (o2 : List api_Found) =>
  some (.inl (o2, (i64 (at_ + 1))))))
  else
  some (.inr o)
theorem le_salvage_scan_it_L1 (h_ : List Int) (o : List api_Found) (at_ : Int) : Le (salvage_scan_it_L1_c h_ o at_) (salvage_scan_it_L1 h_ o at_) := by
  unfold salvage_scan_it_L1_c salvage_scan_it_L1
  with_reducible repeat' (first | exact Le.refl _ | apply Le.bind | apply Le.ite | apply Le.t1 | apply Le.elim | apply le_salvage_wordAt | apply le_salvage_isSync | apply le_salvage_frameIn | apply le_frame_Sound | intro _)

noncomputable def salvage_scan_it_c (h_ : List Int) (out : List api_Found) : Option (List api_Found) :=
  cloop (t2 (salvage_scan_it_L1_c h_)) (out, 0)
theorem le_salvage_scan_it (h_ : List Int) (out : List api_Found) : Le (salvage_scan_it_c h_ out) (salvage_scan_it h_ out) := by
  unfold salvage_scan_it_c salvage_scan_it
  with_reducible repeat' (first | exact Le.refl _ | apply Le.bind | apply Le.loop | apply Le.t2 | apply le_salvage_scan_it_L1 | intro _)

noncomputable def salvage_scan_c (h_ : List Int) : Option (List api_Found) :=
  salvage_scan_it_c h_ []
theorem le_salvage_scan (h_ : List Int) : Le (salvage_scan_c h_) (salvage_scan h_) := by
  unfold salvage_scan_c salvage_scan
  with_reducible repeat' (first | exact Le.refl _ | apply Le.bind | apply le_salvage_scan_it | intro _)

noncomputable def salvage_certain_L1_c (y : List api_Found) (out2 : List api_Found) (i : Int) : Option (((List api_Found) × Int) ⊕ ((List api_Found))) :=
  if (decide (i < (y.length : Int))) = true then
  (idx y i).bind fun x =>
  (gd ((decide (i = 0)) == false) (api_Found.mk 0 (Vector.replicate 64 0)) (idx y (i64 (i - 1)))).bind fun x2 =>
  (gd ((((decide (i = 0)) || (decide (192 ≤ (i64 (x.At - x2.At))))) == true) && ((decide (i = (i64 ((y.length : Int) - 1)))) == false)) (api_Found.mk 0 (Vector.replicate 64 0)) (idx y (i64 (i + 1)))).bind fun x3 =>
  if (((decide (i = 0)) || (decide (192 ≤ (i64 (x.At - x2.At))))) && ((decide (i = (i64 ((y.length : Int) - 1)))) || (decide (192 ≤ (i64 (x3.At - x.At)))))) = true then
  (app out2 ([x] : List api_Found)).bind fun l =>
  some (.inl (l, (i64 (i + 1))))
  else
  some (.inl (out2, (i64 (i + 1))))
  else
  some (.inr out2)
theorem le_salvage_certain_L1 (y : List api_Found) (out2 : List api_Found) (i : Int) : Le (salvage_certain_L1_c y out2 i) (salvage_certain_L1 y out2 i) := by
  unfold salvage_certain_L1_c salvage_certain_L1
  with_reducible repeat' (first | exact Le.refl _ | apply Le.bind | apply Le.ite | apply Le.gd | intro _)

noncomputable def salvage_certain_c (h_ : List Int) : Option (List api_Found) :=
  (salvage_scan_c h_).bind fun y =>
  ((cloop (t2 (salvage_certain_L1_c y)) ([], 0)) : Option (((List api_Found)))).bind (t1 fun (out : List api_Found) =>
  some out)
theorem le_salvage_certain (h_ : List Int) : Le (salvage_certain_c h_) (salvage_certain h_) := by
  unfold salvage_certain_c salvage_certain
  with_reducible repeat' (first | exact Le.refl _ | apply Le.bind | apply Le.loop | apply Le.t1 | apply Le.t2 | apply le_salvage_scan | apply le_salvage_certain_L1 | intro _)

noncomputable def frame_Number_c (f : Vector Int 64) : Option (Int × Bool) :=
  (vidx f 1).bind fun x =>
  (frame_odd_c x).bind fun y =>
  (gd ((!y) == false) 0 (vidx f 2)).bind fun x2 =>
  (gd ((!y) == false) false (frame_odd_c x2)).bind fun y2 =>
  if ((!y) || (!y2)) = true then
  some (0, false)
  else
  (frame_numberOf_c f).bind fun y3 =>
  some (y3, true)
theorem le_frame_Number (f : Vector Int 64) : Le (frame_Number_c f) (frame_Number f) := by
  unfold frame_Number_c frame_Number
  with_reducible repeat' (first | exact Le.refl _ | apply Le.bind | apply Le.ite | apply Le.gd | apply le_frame_odd | apply le_frame_numberOf | intro _)

noncomputable def salvage_newFinder_L1_c (y : (List api_Found)) (numbers2 : List Int) (at__2 : List (Int × Int)) (i : Int) : Option (((List Int) × (List (Int × Int)) × Int) ⊕ ((List Int) × (List (Int × Int)))) :=
  if (decide (i < (y.length : Int))) = true then
  (((idx y i).bind fun x =>
  (frame_Number_c x.Frame).bind fun y2 =>
  (app numbers2 ([y2.1] : List Int)).bind fun l =>
  some (l, (mput kqI at__2 x.At i))) : Option (((List Int) × (List (Int × Int))))).bind (t2 fun (numbers3 : List Int) (at__3 : List (Int × Int)) =>
  some (.inl (numbers3, at__3, (i64 (i + 1)))))
  else
  some (.inr (numbers2, at__2))
theorem le_salvage_newFinder_L1 (y : (List api_Found)) (numbers2 : List Int) (at__2 : List (Int × Int)) (i : Int) : Le (salvage_newFinder_L1_c y numbers2 at__2 i) (salvage_newFinder_L1 y numbers2 at__2 i) := by
  unfold salvage_newFinder_L1_c salvage_newFinder_L1
  with_reducible repeat' (first | exact Le.refl _ | apply Le.bind | apply Le.ite | apply Le.t2 | apply le_frame_Number | intro _)

noncomputable def salvage_newFinder_c (h_ : List Int) : Option salvage_finder :=
  (salvage_certain_c h_).bind fun y =>
  ((cloop (t3 (salvage_newFinder_L1_c y)) ([], ([] : List (Int × Int)), 0)) : Option (((List Int) × (List (Int × Int))))).bind (t2 fun (numbers : List Int) (at__ : List (Int × Int)) =>
  some (salvage_finder.mk h_ y numbers ()))
theorem le_salvage_newFinder (h_ : List Int) : Le (salvage_newFinder_c h_) (salvage_newFinder h_) := by
  unfold salvage_newFinder_c salvage_newFinder
  with_reducible repeat' (first | exact Le.refl _ | apply Le.bind | apply Le.loop | apply Le.t2 | apply Le.t3 | apply le_salvage_certain | apply le_salvage_newFinder_L1 | intro _)

noncomputable def salvage_filled_L1_c (state : Int) (out2 : Vector Int 64) (i : Int) : Option (((Vector Int 64) × Int) ⊕ ((Vector Int 64))) :=
  if (decide (i < 64)) = true then
  (vidx out2 i).bind fun x =>
  some (.inl ((vset out2 i state), (i64 (i + 1))))
  else
  some (.inr out2)
theorem le_salvage_filled_L1 (state : Int) (out2 : Vector Int 64) (i : Int) : Le (salvage_filled_L1_c state out2 i) (salvage_filled_L1 state out2 i) := by
  unfold salvage_filled_L1_c salvage_filled_L1
  with_reducible repeat' (first | exact Le.refl _ | apply Le.bind | apply Le.ite | intro _)

noncomputable def salvage_filled_c (state : Int) : Option (Vector Int 64) :=
  ((cloop (t2 (salvage_filled_L1_c state)) ((Vector.replicate 64 0), 0)) : Option (((Vector Int 64)))).bind (t1 fun (out : Vector Int 64) =>
  some out)
theorem le_salvage_filled (state : Int) : Le (salvage_filled_c state) (salvage_filled state) := by
  unfold salvage_filled_c salvage_filled
  with_reducible repeat' (first | exact Le.refl _ | apply Le.bind | apply Le.loop | apply Le.t1 | apply Le.t2 | apply le_salvage_filled_L1 | intro _)

noncomputable def slices_BinarySearchFunc_api_Found_api_Found_int_L1_c (x : List api_Found) (target : Int) (cmp : api_Found → Int → Option Int) (i2 : Int) (j : Int) : Option ((Int × Int) ⊕ (Int)) :=
  if (decide (i2 < j)) = true then
  (shr .u64 (u64 (i64 (i2 + j))) 1).bind fun q =>
  (idx x (i64 q)).bind fun x2 =>
  (cmp x2 target).bind fun y =>
  if (decide (y < 0)) = true then
  some (.inl ((i64 ((i64 q) + 1)), j))
  else
  some (.inl (i2, (i64 q)))
  else
  some (.inr i2)
theorem le_slices_BinarySearchFunc_api_Found_api_Found_int_L1 (x : List api_Found) (target : Int) (cmp : api_Found → Int → Option Int) (i2 : Int) (j : Int) (cmp' : api_Found → Int → Option Int) (h_cmp : ∀ z0 z1, Le (cmp z0 z1) (cmp' z0 z1)) : Le (slices_BinarySearchFunc_api_Found_api_Found_int_L1_c x target cmp i2 j) (slices_BinarySearchFunc_api_Found_api_Found_int_L1 x target cmp' i2 j) := by
  unfold slices_BinarySearchFunc_api_Found_api_Found_int_L1_c slices_BinarySearchFunc_api_Found_api_Found_int_L1
  with_reducible repeat' (first | exact Le.refl _ | apply Le.bind | apply Le.ite | apply h_cmp | intro _)

noncomputable def slices_BinarySearchFunc_api_Found_api_Found_int_c (x : List api_Found) (target : Int) (cmp : api_Found → Int → Option Int) : Option (Int × Bool) :=
  ((cloop (t2 (slices_BinarySearchFunc_api_Found_api_Found_int_L1_c x target cmp)) (0, (x.length : Int))) : Option ((Int))).bind (t1 fun (i : Int) =>
  (gd ((decide (i < (x.length : Int))) == true) (api_Found.mk 0 (Vector.replicate 64 0)) (idx x i)).bind fun x3 =>
  (gd ((decide (i < (x.length : Int))) == true) 0 (cmp x3 target)).bind fun y2 =>
  some (i, ((decide (i < (x.length : Int))) && (decide (y2 = 0)))))
theorem le_slices_BinarySearchFunc_api_Found_api_Found_int (x : List api_Found) (target : Int) (cmp : api_Found → Int → Option Int) (cmp' : api_Found → Int → Option Int) (h_cmp : ∀ z0 z1, Le (cmp z0 z1) (cmp' z0 z1)) : Le (slices_BinarySearchFunc_api_Found_api_Found_int_c x target cmp) (slices_BinarySearchFunc_api_Found_api_Found_int x target cmp') := by
  unfold slices_BinarySearchFunc_api_Found_api_Found_int_c slices_BinarySearchFunc_api_Found_api_Found_int
  with_reducible repeat' (first | exact Le.refl _ | apply Le.bind | apply Le.gd | apply Le.loop | apply Le.t1 | apply Le.t2 | apply le_slices_BinarySearchFunc_api_Found_api_Found_int_L1 | apply h_cmp | intro _)

noncomputable def salvage_finder_nearest_1_c (c_ : api_Found) (at_ : Int) : Option Int :=
  some (i64 (c_.At - at_))
theorem le_salvage_finder_nearest_1 (c_ : api_Found) (at_ : Int) : Le (salvage_finder_nearest_1_c c_ at_) (salvage_finder_nearest_1 c_ at_) := by
  unfold salvage_finder_nearest_1_c salvage_finder_nearest_1
  with_reducible repeat' (first | exact Le.refl _ | apply Le.bind | intro _)

noncomputable def salvage_finder_nearest_c (x : salvage_finder) (place : Int) : Option Int :=
  (slices_BinarySearchFunc_api_Found_api_Found_int_c x.certain place (fun z0 z1 => salvage_finder_nearest_1_c z0 z1)).bind fun y =>
  (gd (((decide (y.1 = (x.certain.length : Int))) == false) && ((decide (0 < y.1)) == true)) (api_Found.mk 0 (Vector.replicate 64 0)) (idx x.certain (i64 (y.1 - 1)))).bind fun x2 =>
  (gd (((decide (y.1 = (x.certain.length : Int))) == false) && ((decide (0 < y.1)) == true)) (api_Found.mk 0 (Vector.replicate 64 0)) (idx x.certain y.1)).bind fun x3 =>
  if ((decide (y.1 = (x.certain.length : Int))) || ((decide (0 < y.1)) && (decide ((i64 (place - x2.At)) ≤ (i64 (x3.At - place)))))) = true then
  some (i64 (y.1 - 1))
  else
  some y.1
theorem le_salvage_finder_nearest (x : salvage_finder) (place : Int) : Le (salvage_finder_nearest_c x place) (salvage_finder_nearest x place) := by
  unfold salvage_finder_nearest_c salvage_finder_nearest
  with_reducible repeat' (first | exact Le.refl _ | apply Le.bind | apply Le.ite | apply Le.gd | apply le_slices_BinarySearchFunc_api_Found_api_Found_int | apply le_salvage_finder_nearest_1 | intro _)

noncomputable def salvage_size_c (n : Int) : Option Int :=
  some (max n (i64 (-n)))
theorem le_salvage_size (n : Int) : Le (salvage_size_c n) (salvage_size n) := by
  unfold salvage_size_c salvage_size
  with_reducible repeat' (first | exact Le.refl _ | apply Le.bind | intro _)

noncomputable def salvage_finder_places_L2_c (x : salvage_finder) (i : Int) (x3 : Int) (out4 : List Int) (p : Int) : Option (((List Int) × Int) ⊕ ((List Int))) :=
  if ((decide ((-192) < p)) && (decide (p < (x.h_.length : Int)))) = true then
  (((salvage_finder_nearest_c x p).bind fun y =>
  if (!decide (y = i)) = true then
  some (.inl out4)
  else
  (idx x.certain y).bind fun x4 =>
  (salvage_size_c (i64 (x4.At - p))).bind fun y2 =>
  if (decide (192 ≤ y2)) = true then
  (app out4 ([p] : List Int)).bind fun l =>
  some (.inr l)
  else
  some (.inr out4)) : Option (((List Int)) ⊕ ((List Int)))).bind (Sum.elim (fun q' => some (.inr q')) (t1 fun (out5 : List Int) =>
  some (.inl (out5, (i64 (p + x3))))))
  else
  some (.inr out4)
theorem le_salvage_finder_places_L2 (x : salvage_finder) (i : Int) (x3 : Int) (out4 : List Int) (p : Int) : Le (salvage_finder_places_L2_c x i x3 out4 p) (salvage_finder_places_L2 x i x3 out4 p) := by
  unfold salvage_finder_places_L2_c salvage_finder_places_L2
  with_reducible repeat' (first | exact Le.refl _ | apply Le.bind | apply Le.ite | apply Le.t1 | apply Le.elim | apply le_salvage_finder_nearest | apply le_salvage_size | intro _)

noncomputable def salvage_finder_places_L1_c (x : salvage_finder) (i : Int) (x2 : api_Found) (out2 : List Int) (i2 : Int) : Option (((List Int) × Int) ⊕ ((List Int))) :=
  if (decide (i2 < (([(-194), 194] : List Int).length : Int))) = true then
  (((idx ([(-194), 194] : List Int) i2).bind fun x3 =>
  cloop (t2 (salvage_finder_places_L2_c x i x3)) (out2, (i64 (x2.At + x3)))) : Option (((List Int)))).bind (t1 fun (out3 : List Int) =>
  some (.inl (out3, (i64 (i2 + 1)))))
  else
  some (.inr out2)
theorem le_salvage_finder_places_L1 (x : salvage_finder) (i : Int) (x2 : api_Found) (out2 : List Int) (i2 : Int) : Le (salvage_finder_places_L1_c x i x2 out2 i2) (salvage_finder_places_L1 x i x2 out2 i2) := by
  unfold salvage_finder_places_L1_c salvage_finder_places_L1
  with_reducible repeat' (first | exact Le.refl _ | apply Le.bind | apply Le.ite | apply Le.loop | apply Le.t1 | apply Le.t2 | apply le_salvage_finder_places_L2 | intro _)

noncomputable def salvage_finder_places_c (x : salvage_finder) (i : Int) : Option (List Int) :=
  (idx x.certain i).bind fun x2 =>
  ((cloop (t2 (salvage_finder_places_L1_c x i x2)) ([], 0)) : Option (((List Int)))).bind (t1 fun (out : List Int) =>
  some out)
theorem le_salvage_finder_places (x : salvage_finder) (i : Int) : Le (salvage_finder_places_c x i) (salvage_finder_places x i) := by
  unfold salvage_finder_places_c salvage_finder_places
  with_reducible repeat' (first | exact Le.refl _ | apply Le.bind | apply Le.loop | apply Le.t1 | apply Le.t2 | apply le_salvage_finder_places_L1 | intro _)

noncomputable def salvage_partly_L1_c (h_ : List Int) (at_ : Int) (f2 : Vector Int 64) (whole2 : Vector Bool 64) (i : Int) : Option (((Vector Int 64) × (Vector Bool 64) × Int) ⊕ ((Vector Int 64) × (Vector Bool 64))) :=
  if (decide (i < 64)) = true then
  if ((decide (0 ≤ (i64 (at_ + (i64 (3 * i)))))) && (decide ((i64 ((i64 (at_ + (i64 (3 * i)))) + 3)) ≤ (h_.length : Int)))) = true then
  (slc h_ (i64 (at_ + (i64 (3 * i)))) (i64 ((i64 (at_ + (i64 (3 * i)))) + 3))).bind fun l =>
  (salvage_wordAt_c l).bind fun y =>
  (vidx f2 i).bind fun x =>
  (vidx whole2 i).bind fun x2 =>
  some (.inl ((vset f2 i y), (vset whole2 i true), (i64 (i + 1))))
  else
  some (.inl (f2, whole2, (i64 (i + 1))))
  else
  some (.inr (f2, whole2))
theorem le_salvage_partly_L1 (h_ : List Int) (at_ : Int) (f2 : Vector Int 64) (whole2 : Vector Bool 64) (i : Int) : Le (salvage_partly_L1_c h_ at_ f2 whole2 i) (salvage_partly_L1 h_ at_ f2 whole2 i) := by
  unfold salvage_partly_L1_c salvage_partly_L1
  with_reducible repeat' (first | exact Le.refl _ | apply Le.bind | apply Le.ite | apply le_salvage_wordAt | intro _)

noncomputable def salvage_partly_c (h_ : List Int) (at_ : Int) : Option ((Vector Int 64) × (Vector Bool 64)) :=
  ((cloop (t3 (salvage_partly_L1_c h_ at_)) ((Vector.replicate 64 0), (Vector.replicate 64 false), 0)) : Option (((Vector Int 64) × (Vector Bool 64)))).bind (t2 fun (f : Vector Int 64) (whole : Vector Bool 64) =>
  some (f, whole))
theorem le_salvage_partly (h_ : List Int) (at_ : Int) : Le (salvage_partly_c h_ at_) (salvage_partly h_ at_) := by
  unfold salvage_partly_c salvage_partly
  with_reducible repeat' (first | exact Le.refl _ | apply Le.bind | apply Le.loop | apply Le.t2 | apply Le.t3 | apply le_salvage_partly_L1 | intro _)

noncomputable def salvage_own_c (f : Vector Int 64) (whole : Vector Bool 64) : Option (Int × Bool) :=
  (vidx whole 0).bind fun x =>
  (gd ((!x) == false) false (vidx whole 1)).bind fun x2 =>
  (gd (((!x) || (!x2)) == false) false (vidx whole 2)).bind fun x3 =>
  if (((!x) || (!x2)) || (!x3)) = true then
  some (0, false)
  else
  (frame_Number_c f).bind fun y =>
  (frame_Sync_c y.1).bind fun y2 =>
  (gd (y.2 == true) 0 (vidx f 0)).bind fun x4 =>
  some (y.1, (y.2 && (decide (x4 = (u16 y2.1)))))
theorem le_salvage_own (f : Vector Int 64) (whole : Vector Bool 64) : Le (salvage_own_c f whole) (salvage_own f whole) := by
  unfold salvage_own_c salvage_own
  with_reducible repeat' (first | exact Le.refl _ | apply Le.bind | apply Le.ite | apply Le.gd | apply le_frame_Number | apply le_frame_Sync | intro _)

noncomputable def salvage_finder_other_L1_c (x : salvage_finder) (i : Int) (place : Int) (best2 : Int) (least : Int) (i2 : Int) : Option ((Int × Int × Int) ⊕ (Int)) :=
  if (decide (i2 < (x.certain.length : Int))) = true then
  (idx x.certain i2).bind fun x2 =>
  (gd ((decide (i2 = i)) == false) (api_Found.mk 0 (Vector.replicate 64 0)) (idx x.certain i)).bind fun x3 =>
  (gd ((decide (i2 = i)) == false) 0 (rem (i64 (x2.At - x3.At)) 194)).bind fun q =>
  if ((decide (i2 = i)) || (!decide (q = 0))) = true then
  some (.inl (best2, least, (i64 (i2 + 1))))
  else
  (salvage_size_c (i64 (x2.At - place))).bind fun y =>
  if ((decide (best2 < 0)) || (decide (y < least))) = true then
  some (.inl (i2, y, (i64 (i2 + 1))))
  else
  some (.inl (best2, least, (i64 (i2 + 1))))
  else
  some (.inr best2)
theorem le_salvage_finder_other_L1 (x : salvage_finder) (i : Int) (place : Int) (best2 : Int) (least : Int) (i2 : Int) : Le (salvage_finder_other_L1_c x i place best2 least i2) (salvage_finder_other_L1 x i place best2 least i2) := by
  unfold salvage_finder_other_L1_c salvage_finder_other_L1
  with_reducible repeat' (first | exact Le.refl _ | apply Le.bind | apply Le.ite | apply Le.gd | apply le_salvage_size | intro _)

noncomputable def salvage_finder_other_c (x : salvage_finder) (i : Int) (place : Int) : Option Int :=
  ((cloop (t3 (salvage_finder_other_L1_c x i place)) ((-1), 0, 0)) : Option ((Int))).bind (t1 fun (best : Int) =>
  some best)
theorem le_salvage_finder_other (x : salvage_finder) (i : Int) (place : Int) : Le (salvage_finder_other_c x i place) (salvage_finder_other x i place) := by
  unfold salvage_finder_other_c salvage_finder_other
  with_reducible repeat' (first | exact Le.refl _ | apply Le.bind | apply Le.loop | apply Le.t1 | apply Le.t3 | apply le_salvage_finder_other_L1 | intro _)

noncomputable def salvage_within_c (n : Int) (low : Int) (high : Int) : Option Bool :=
  some ((decide (low ≤ n)) && (decide (n ≤ high)))
theorem le_salvage_within (n : Int) (low : Int) (high : Int) : Le (salvage_within_c n low high) (salvage_within n low high) := by
  unfold salvage_within_c salvage_within
  with_reducible repeat' (first | exact Le.refl _ | apply Le.bind | intro _)

noncomputable def salvage_finder_number_c (x : salvage_finder) (i : Int) (place : Int) (f : Vector Int 64) (whole : Vector Bool 64) : Option (Int × Bool) :=
  (salvage_own_c f whole).bind fun y =>
  if y.2 = true then
  some (y.1, true)
  else
  (salvage_finder_other_c x i place).bind fun y2 =>
  if (decide (y2 < 0)) = true then
  some (0, false)
  else
  (idx x.certain i).bind fun x2 =>
  (quo .i64 (i64 (place - x2.At)) 194).bind fun q =>
  (idx x.certain y2).bind fun x3 =>
  (idx x.certain i).bind fun x4 =>
  (quo .i64 (i64 (x3.At - x4.At)) 194).bind fun q2 =>
  (idx x.numbers y2).bind fun x5 =>
  (idx x.numbers i).bind fun x6 =>
  (rem (i64 (x5 - x6)) q2).bind fun q3 =>
  (gd ((!decide (q3 = 0)) == false) 0 (quo .i64 (i64 (x5 - x6)) q2)).bind fun q4 =>
  if ((!decide (q3 = 0)) || (decide (q4 ≤ 0))) = true then
  some (0, false)
  else
  (idx x.numbers i).bind fun x7 =>
  (quo .i64 (i64 (x5 - x6)) q2).bind fun q5 =>
  (salvage_within_c (i64 (x7 + (i64 (q * q5)))) 0 4194303).bind fun y3 =>
  some ((i64 (x7 + (i64 (q * q5)))), y3)
theorem le_salvage_finder_number (x : salvage_finder) (i : Int) (place : Int) (f : Vector Int 64) (whole : Vector Bool 64) : Le (salvage_finder_number_c x i place f whole) (salvage_finder_number x i place f whole) := by
  unfold salvage_finder_number_c salvage_finder_number
  with_reducible repeat' (first | exact Le.refl _ | apply Le.bind | apply Le.ite | apply Le.gd | apply le_salvage_own | apply le_salvage_finder_other | apply le_salvage_within | intro _)

noncomputable def frame_Odd_c (w : Int) : Option Bool :=
  (frame_odd_c w).bind fun y =>
  some y
theorem le_frame_Odd (w : Int) : Le (frame_Odd_c w) (frame_Odd w) := by
  unfold frame_Odd_c frame_Odd
  with_reducible repeat' (first | exact Le.refl _ | apply Le.bind | apply le_frame_odd | intro _)

noncomputable def salvage_rightAlone_c (w : Int) (i : Int) (number : Int) : Option Bool :=
  if (decide (i = 0)) = true then
  (frame_Sync_c number).bind fun y =>
  some (decide (w = (u16 y.1)))
  else
  if (decide (i = 1)) = true then
  (frame_Odd_c w).bind fun y2 =>
  some (y2 && (decide ((i64 (band .u16 w 2047)) = (band .i64 number 2047))))
  else
  if (decide (i = 2)) = true then
  (frame_Odd_c w).bind fun y3 =>
  (gd (y3 == true) 0 (shr .i64 number 11)).bind fun q =>
  some (y3 && (decide ((i64 (band .u16 w 2047)) = q)))
  else
  (frame_Odd_c w).bind fun y4 =>
  some y4
theorem le_salvage_rightAlone (w : Int) (i : Int) (number : Int) : Le (salvage_rightAlone_c w i number) (salvage_rightAlone w i number) := by
  unfold salvage_rightAlone_c salvage_rightAlone
  with_reducible repeat' (first | exact Le.refl _ | apply Le.bind | apply Le.ite | apply Le.gd | apply le_frame_Sync | apply le_frame_Odd | intro _)

noncomputable def salvage_finder_beside_L1_c (y : (Vector Int 64) × (Vector Bool 64)) (y2 : Int × Bool) (r_2 : api_Rest) (i2 : Int) : Option ((api_Rest × Int) ⊕ (api_Rest)) :=
  if (decide (i2 < 64)) = true then
  (vidx y.1 i2).bind fun x2 =>
  (vidx y.2 i2).bind fun x3 =>
  (gd (x3 == true) false (salvage_rightAlone_c x2 i2 y2.1)).bind fun y3 =>
  if (x3 && y3) = true then
  (vidx r_2.Frame i2).bind fun x4 =>
  (vidx r_2.States i2).bind fun x5 =>
  some (.inl ((api_Rest.mk r_2.Number (vset r_2.Frame i2 x2) (vset r_2.States i2 1) r_2.Sound r_2.Copies r_2.Conflict), (i64 (i2 + 1))))
  else
  some (.inl (r_2, (i64 (i2 + 1))))
  else
  some (.inr r_2)
theorem le_salvage_finder_beside_L1 (y : (Vector Int 64) × (Vector Bool 64)) (y2 : Int × Bool) (r_2 : api_Rest) (i2 : Int) : Le (salvage_finder_beside_L1_c y y2 r_2 i2) (salvage_finder_beside_L1 y y2 r_2 i2) := by
  unfold salvage_finder_beside_L1_c salvage_finder_beside_L1
  with_reducible repeat' (first | exact Le.refl _ | apply Le.bind | apply Le.ite | apply Le.gd | apply le_salvage_rightAlone | intro _)

noncomputable def slices_IndexFunc_int_int_L1_c (s : List Int) (f : Int → Option Bool) (i : Int) : Option ((Int) ⊕ (Int) ⊕ (Unit)) :=
  if (decide (i < (s.length : Int))) = true then
  (idx s i).bind fun x =>
  (f x).bind fun y =>
  if y = true then
  some (.inr (.inl i))
  else
  some (.inl (i64 (i + 1)))
  else
  some (.inr (.inr ()))
theorem le_slices_IndexFunc_int_int_L1 (s : List Int) (f : Int → Option Bool) (i : Int) (f' : Int → Option Bool) (h_f : ∀ z0, Le (f z0) (f' z0)) : Le (slices_IndexFunc_int_int_L1_c s f i) (slices_IndexFunc_int_int_L1 s f' i) := by
  unfold slices_IndexFunc_int_int_L1_c slices_IndexFunc_int_int_L1
  with_reducible repeat' (first | exact Le.refl _ | apply Le.bind | apply Le.ite | apply h_f | intro _)

noncomputable def slices_IndexFunc_int_int_c (s : List Int) (f : Int → Option Bool) : Option Int :=
  ((cloop (t1 (slices_IndexFunc_int_int_L1_c s f)) 0) : Option ((Int) ⊕ (Unit))).bind (Sum.elim (fun q' => some q') (t0 (some (-1))))
theorem le_slices_IndexFunc_int_int (s : List Int) (f : Int → Option Bool) (f' : Int → Option Bool) (h_f : ∀ z0, Le (f z0) (f' z0)) : Le (slices_IndexFunc_int_int_c s f) (slices_IndexFunc_int_int s f') := by
  unfold slices_IndexFunc_int_int_c slices_IndexFunc_int_int
  with_reducible repeat' (first | exact Le.refl _ | apply Le.bind | apply Le.loop | apply Le.t0 | apply Le.t1 | apply Le.elim | apply le_slices_IndexFunc_int_int_L1 | apply h_f | intro _)

noncomputable def slices_ContainsFunc_int_int_c (s : List Int) (f : Int → Option Bool) : Option Bool :=
  (slices_IndexFunc_int_int_c s f).bind fun y =>
  some (decide (0 ≤ y))
theorem le_slices_ContainsFunc_int_int (s : List Int) (f : Int → Option Bool) (f' : Int → Option Bool) (h_f : ∀ z0, Le (f z0) (f' z0)) : Le (slices_ContainsFunc_int_int_c s f) (slices_ContainsFunc_int_int s f') := by
  unfold slices_ContainsFunc_int_int_c slices_ContainsFunc_int_int
  with_reducible repeat' (first | exact Le.refl _ | apply Le.bind | apply le_slices_IndexFunc_int_int | apply h_f | intro _)

noncomputable def salvage_all_1_c (s : Int) (c0 : Int) : Option Bool :=
  some (!decide (s = c0))
theorem le_salvage_all_1 (s : Int) (c0 : Int) : Le (salvage_all_1_c s c0) (salvage_all_1 s c0) := by
  unfold salvage_all_1_c salvage_all_1
  with_reducible repeat' (first | exact Le.refl _ | apply Le.bind | intro _)

noncomputable def salvage_all_c (r_ : api_Rest) (state : Int) : Option Bool :=
  (slc r_.States.toList 0 (64 : Int)).bind fun l =>
  (slices_ContainsFunc_int_int_c l (fun z0 => salvage_all_1_c z0 state)).bind fun y =>
  some (!y)
theorem le_salvage_all (r_ : api_Rest) (state : Int) : Le (salvage_all_c r_ state) (salvage_all r_ state) := by
  unfold salvage_all_c salvage_all
  with_reducible repeat' (first | exact Le.refl _ | apply Le.bind | apply le_slices_ContainsFunc_int_int | apply le_salvage_all_1 | intro _)

noncomputable def salvage_finder_beside_c (x : salvage_finder) (i : Int) (place : Int) : Option (api_Rest × Bool) :=
  (salvage_partly_c x.h_ place).bind fun y =>
  (salvage_finder_number_c x i place y.1 y.2).bind fun y2 =>
  if (!y2.2) = true then
  some ((api_Rest.mk 0 (Vector.replicate 64 0) (Vector.replicate 64 0) false 0 false), false)
  else
  ((cloop (t2 (salvage_finder_beside_L1_c y y2)) ((api_Rest.mk y2.1 (Vector.replicate 64 0) (Vector.replicate 64 0) false 0 false), 0)) : Option ((api_Rest))).bind (t1 fun (r_ : api_Rest) =>
  (salvage_all_c r_ 0).bind fun y4 =>
  some (r_, (!y4)))
theorem le_salvage_finder_beside (x : salvage_finder) (i : Int) (place : Int) : Le (salvage_finder_beside_c x i place) (salvage_finder_beside x i place) := by
  unfold salvage_finder_beside_c salvage_finder_beside
  with_reducible repeat' (first | exact Le.refl _ | apply Le.bind | apply Le.ite | apply Le.loop | apply Le.t1 | apply Le.t2 | apply le_salvage_partly | apply le_salvage_finder_number | apply le_salvage_finder_beside_L1 | apply le_salvage_all | intro _)

noncomputable def salvage_rests_L2_c (y : salvage_finder) (i : Int) (y3 : (List Int)) (l5 : List api_Rest) (i2 : Int) : Option (((List api_Rest) × Int) ⊕ ((List api_Rest))) :=
  if (decide (i2 < (y3.length : Int))) = true then
  (idx y3 i2).bind fun x3 =>
  (salvage_finder_beside_c y i x3).bind fun y4 =>
  if y4.2 = true then
  (app l5 ([y4.1] : List api_Rest)).bind fun l6 =>
  some (.inl (l6, (i64 (i2 + 1))))
  else
  some (.inl (l5, (i64 (i2 + 1))))
  else
  some (.inr l5)
theorem le_salvage_rests_L2 (y : salvage_finder) (i : Int) (y3 : (List Int)) (l5 : List api_Rest) (i2 : Int) : Le (salvage_rests_L2_c y i y3 l5 i2) (salvage_rests_L2 y i y3 l5 i2) := by
  unfold salvage_rests_L2_c salvage_rests_L2
  with_reducible repeat' (first | exact Le.refl _ | apply Le.bind | apply Le.ite | apply le_salvage_finder_beside | intro _)

noncomputable def salvage_rests_L1_c (y : salvage_finder) (l2 : List api_Rest) (i : Int) : Option (((List api_Rest) × Int) ⊕ ((List api_Rest))) :=
  if (decide (i < (y.certain.length : Int))) = true then
  (((idx y.certain i).bind fun x =>
  (idx y.numbers i).bind fun x2 =>
  (salvage_filled_c 3).bind fun y2 =>
  (app l2 ([(api_Rest.mk x2 x.Frame y2 true 1 false)] : List api_Rest)).bind fun l4 =>
  (salvage_finder_places_c y i).bind fun y3 =>
  cloop (t2 (salvage_rests_L2_c y i y3)) (l4, 0)) : Option (((List api_Rest)))).bind (t1 fun (l3 : List api_Rest) =>
  some (.inl (l3, (i64 (i + 1)))))
  else
  some (.inr l2)
theorem le_salvage_rests_L1 (y : salvage_finder) (l2 : List api_Rest) (i : Int) : Le (salvage_rests_L1_c y l2 i) (salvage_rests_L1 y l2 i) := by
  unfold salvage_rests_L1_c salvage_rests_L1
  with_reducible repeat' (first | exact Le.refl _ | apply Le.bind | apply Le.ite | apply Le.loop | apply Le.t1 | apply Le.t2 | apply le_salvage_filled | apply le_salvage_finder_places | apply le_salvage_rests_L2 | intro _)

noncomputable def salvage_grouped_L1_c (l : List api_Rest) (groups2 : List (Int × (List api_Rest))) (numbers2 : List Int) (i : Int) : Option (((List (Int × (List api_Rest))) × (List Int) × Int) ⊕ ((List (Int × (List api_Rest))) × (List Int))) :=
  if (decide (i < (l.length : Int))) = true then
  (((idx l i).bind fun x =>
  (((some (msel (mget kqI groups2 x.Number))).bind (Sum.elim (fun z =>
  if true = true then
  (app numbers2 ([x.Number] : List Int)).bind fun l2 =>
  some l2
  else
  none) (fun z =>
  (ck (decide (0 < z.length))).bind fun u =>
  if false = true then
  none
  else
  some numbers2))) : Option (((List Int)))).bind (t1 fun (numbers4 : List Int) =>
  (some (msel (mget kqI groups2 x.Number))).bind (Sum.elim (fun z2 =>
  (app [] ([x] : List api_Rest)).bind fun l3 =>
  some ((mput kqI groups2 x.Number l3), numbers4)) (fun z2 =>
  (app z2 ([x] : List api_Rest)).bind fun l4 =>
  some ((mput kqI groups2 x.Number l4), numbers4))))) : Option (((List (Int × (List api_Rest))) × (List Int)))).bind (t2 fun (groups3 : List (Int × (List api_Rest))) (numbers3 : List Int) =>
  some (.inl (groups3, numbers3, (i64 (i + 1)))))
  else
  some (.inr (groups2, numbers2))
theorem le_salvage_grouped_L1 (l : List api_Rest) (groups2 : List (Int × (List api_Rest))) (numbers2 : List Int) (i : Int) : Le (salvage_grouped_L1_c l groups2 numbers2 i) (salvage_grouped_L1 l groups2 numbers2 i) := by
  unfold salvage_grouped_L1_c salvage_grouped_L1
  with_reducible repeat' (first | exact Le.refl _ | apply Le.bind | apply Le.ite | apply Le.t1 | apply Le.t2 | apply Le.elim | intro _)

noncomputable def salvage_merge_L1_c (l : List api_Rest) (Copies2 : Int) (i : Int) : Option ((Int × Int) ⊕ (Int)) :=
  if (decide (i < (l.length : Int))) = true then
  (idx l i).bind fun x2 =>
  some (.inl ((i64 (Copies2 + x2.Copies)), (i64 (i + 1))))
  else
  some (.inr Copies2)
theorem le_salvage_merge_L1 (l : List api_Rest) (Copies2 : Int) (i : Int) : Le (salvage_merge_L1_c l Copies2 i) (salvage_merge_L1 l Copies2 i) := by
  unfold salvage_merge_L1_c salvage_merge_L1
  with_reducible repeat' (first | exact Le.refl _ | apply Le.bind | apply Le.ite | intro _)

noncomputable def slices_IndexFunc_api_Rest_api_Rest_L1_c (s : List api_Rest) (f : api_Rest → Option Bool) (i : Int) : Option ((Int) ⊕ (Int) ⊕ (Unit)) :=
  if (decide (i < (s.length : Int))) = true then
  (idx s i).bind fun x =>
  (f x).bind fun y =>
  if y = true then
  some (.inr (.inl i))
  else
  some (.inl (i64 (i + 1)))
  else
  some (.inr (.inr ()))
theorem le_slices_IndexFunc_api_Rest_api_Rest_L1 (s : List api_Rest) (f : api_Rest → Option Bool) (i : Int) (f' : api_Rest → Option Bool) (h_f : ∀ z0, Le (f z0) (f' z0)) : Le (slices_IndexFunc_api_Rest_api_Rest_L1_c s f i) (slices_IndexFunc_api_Rest_api_Rest_L1 s f' i) := by
  unfold slices_IndexFunc_api_Rest_api_Rest_L1_c slices_IndexFunc_api_Rest_api_Rest_L1
  with_reducible repeat' (first | exact Le.refl _ | apply Le.bind | apply Le.ite | apply h_f | intro _)

noncomputable def slices_IndexFunc_api_Rest_api_Rest_c (s : List api_Rest) (f : api_Rest → Option Bool) : Option Int :=
  ((cloop (t1 (slices_IndexFunc_api_Rest_api_Rest_L1_c s f)) 0) : Option ((Int) ⊕ (Unit))).bind (Sum.elim (fun q' => some q') (t0 (some (-1))))
theorem le_slices_IndexFunc_api_Rest_api_Rest (s : List api_Rest) (f : api_Rest → Option Bool) (f' : api_Rest → Option Bool) (h_f : ∀ z0, Le (f z0) (f' z0)) : Le (slices_IndexFunc_api_Rest_api_Rest_c s f) (slices_IndexFunc_api_Rest_api_Rest s f') := by
  unfold slices_IndexFunc_api_Rest_api_Rest_c slices_IndexFunc_api_Rest_api_Rest
  with_reducible repeat' (first | exact Le.refl _ | apply Le.bind | apply Le.loop | apply Le.t0 | apply Le.t1 | apply Le.elim | apply le_slices_IndexFunc_api_Rest_api_Rest_L1 | apply h_f | intro _)

noncomputable def slices_ContainsFunc_api_Rest_api_Rest_c (s : List api_Rest) (f : api_Rest → Option Bool) : Option Bool :=
  (slices_IndexFunc_api_Rest_api_Rest_c s f).bind fun y =>
  some (decide (0 ≤ y))
theorem le_slices_ContainsFunc_api_Rest_api_Rest (s : List api_Rest) (f : api_Rest → Option Bool) (f' : api_Rest → Option Bool) (h_f : ∀ z0, Le (f z0) (f' z0)) : Le (slices_ContainsFunc_api_Rest_api_Rest_c s f) (slices_ContainsFunc_api_Rest_api_Rest s f') := by
  unfold slices_ContainsFunc_api_Rest_api_Rest_c slices_ContainsFunc_api_Rest_api_Rest
  with_reducible repeat' (first | exact Le.refl _ | apply Le.bind | apply le_slices_IndexFunc_api_Rest_api_Rest | apply h_f | intro _)

noncomputable def salvage_merge_1_c (r_ : api_Rest) : Option Bool :=
  some r_.Conflict
theorem le_salvage_merge_1 (r_ : api_Rest) : Le (salvage_merge_1_c r_) (salvage_merge_1 r_) := by
  unfold salvage_merge_1_c salvage_merge_1
  with_reducible repeat' (first | exact Le.refl _ | apply Le.bind | intro _)

noncomputable def salvage_ofSound_L2_c (o2 : api_Rest) (x : api_Rest) (States : Vector Int 64) (i2 : Int) : Option (((Vector Int 64) × Int) ⊕ (api_Rest)) :=
  if (decide (i2 < 64)) = true then
  (vidx x.States i2).bind fun x2 =>
  (vidx States i2).bind fun x3 =>
  (vidx States i2).bind fun x4 =>
  some (.inl ((vset States i2 (max x3 x2)), (i64 (i2 + 1))))
  else
  some (.inr (api_Rest.mk o2.Number x.Frame States true o2.Copies o2.Conflict))
theorem le_salvage_ofSound_L2 (o2 : api_Rest) (x : api_Rest) (States : Vector Int 64) (i2 : Int) : Le (salvage_ofSound_L2_c o2 x States i2) (salvage_ofSound_L2 o2 x States i2) := by
  unfold salvage_ofSound_L2_c salvage_ofSound_L2
  with_reducible repeat' (first | exact Le.refl _ | apply Le.bind | apply Le.ite | intro _)

noncomputable def salvage_ofSound_L1_c (l : List api_Rest) (o2 : api_Rest) (i : Int) : Option ((api_Rest × Int) ⊕ (Bool × api_Rest) ⊕ (api_Rest)) :=
  if (decide (i < (l.length : Int))) = true then
  (((idx l i).bind fun x =>
  if (!x.Sound) = true then
  some (.inr o2)
  else
  if (o2.Sound && (!(decide (o2.Frame = x.Frame)))) = true then
  some (.inl (false, o2))
  else
  (cloop (t2 (salvage_ofSound_L2_c o2 x)) (o2.States, 0)).bind (fun q' => some (.inr q'))) : Option ((Bool × api_Rest) ⊕ (api_Rest))).bind (Sum.elim (fun q' => some (.inr (.inl q'))) (t1 fun (o3 : api_Rest) =>
  some (.inl (o3, (i64 (i + 1))))))
  else
  some (.inr (.inr o2))
theorem le_salvage_ofSound_L1 (l : List api_Rest) (o2 : api_Rest) (i : Int) : Le (salvage_ofSound_L1_c l o2 i) (salvage_ofSound_L1 l o2 i) := by
  unfold salvage_ofSound_L1_c salvage_ofSound_L1
  with_reducible repeat' (first | exact Le.refl _ | apply Le.bind | apply Le.ite | apply Le.loop | apply Le.t1 | apply Le.t2 | apply Le.elim | apply le_salvage_ofSound_L2 | intro _)

noncomputable def salvage_ofSound_c (out : api_Rest) (l : List api_Rest) : Option (Bool × api_Rest) :=
  ((cloop (t2 (salvage_ofSound_L1_c l)) (out, 0)) : Option ((Bool × api_Rest) ⊕ (api_Rest))).bind (Sum.elim (fun q' => some q') (t1 fun (o : api_Rest) =>
  some (true, o)))
theorem le_salvage_ofSound (out : api_Rest) (l : List api_Rest) : Le (salvage_ofSound_c out l) (salvage_ofSound out l) := by
  unfold salvage_ofSound_c salvage_ofSound
  with_reducible repeat' (first | exact Le.refl _ | apply Le.bind | apply Le.loop | apply Le.t1 | apply Le.t2 | apply Le.elim | apply le_salvage_ofSound_L1 | intro _)

noncomputable def salvage_ofParts_L2_c (l : List api_Rest) (i : Int) (o4 : api_Rest) (differ2 : Bool) (i2 : Int) : Option ((api_Rest × Bool × Int) ⊕ (api_Rest × Bool)) :=
  if (decide (i2 < (l.length : Int))) = true then
  (idx l i2).bind fun x =>
  (vidx x.States i).bind fun x2 =>
  if (decide (x2 = 0)) = true then
  some (.inl (o4, differ2, (i64 (i2 + 1))))
  else
  (gd (differ2 == false) 0 (vidx o4.States i)).bind fun x3 =>
  (gd ((differ2 == false) && ((!decide (x3 = 0)) == true)) 0 (vidx o4.Frame i)).bind fun x4 =>
  (gd ((differ2 == false) && ((!decide (x3 = 0)) == true)) 0 (vidx x.Frame i)).bind fun x5 =>
  (vidx o4.States i).bind fun x6 =>
  (vidx x.Frame i).bind fun x7 =>
  (vidx o4.Frame i).bind fun x8 =>
  some (.inl ((api_Rest.mk o4.Number (vset o4.Frame i x7) (vset o4.States i 1) o4.Sound o4.Copies o4.Conflict), (differ2 || ((!decide (x3 = 0)) && (!decide (x4 = x5)))), (i64 (i2 + 1))))
  else
  some (.inr (o4, differ2))
theorem le_salvage_ofParts_L2 (l : List api_Rest) (i : Int) (o4 : api_Rest) (differ2 : Bool) (i2 : Int) : Le (salvage_ofParts_L2_c l i o4 differ2 i2) (salvage_ofParts_L2 l i o4 differ2 i2) := by
  unfold salvage_ofParts_L2_c salvage_ofParts_L2
  with_reducible repeat' (first | exact Le.refl _ | apply Le.bind | apply Le.ite | apply Le.gd | intro _)

noncomputable def salvage_ofParts_L1_c (l : List api_Rest) (o : api_Rest) (i : Int) : Option ((api_Rest × Int) ⊕ (api_Rest)) :=
  if (decide (i < 64)) = true then
  ((((cloop (t3 (salvage_ofParts_L2_c l i)) (o, false, 0)) : Option ((api_Rest × Bool))).bind (t2 fun (o3 : api_Rest) (differ : Bool) =>
  if differ = true then
  (vidx o3.States i).bind fun x9 =>
  (vidx o3.Frame i).bind fun x10 =>
  some (api_Rest.mk o3.Number (vset o3.Frame i 0) (vset o3.States i 0) o3.Sound o3.Copies o3.Conflict)
  else
  some o3)) : Option ((api_Rest))).bind (t1 fun (o2 : api_Rest) =>
  some (.inl (o2, (i64 (i + 1)))))
  else
  some (.inr o)
theorem le_salvage_ofParts_L1 (l : List api_Rest) (o : api_Rest) (i : Int) : Le (salvage_ofParts_L1_c l o i) (salvage_ofParts_L1 l o i) := by
  unfold salvage_ofParts_L1_c salvage_ofParts_L1
  with_reducible repeat' (first | exact Le.refl _ | apply Le.bind | apply Le.ite | apply Le.loop | apply Le.t1 | apply Le.t2 | apply Le.t3 | apply le_salvage_ofParts_L2 | intro _)

noncomputable def salvage_ofParts_c (out : api_Rest) (l : List api_Rest) : Option api_Rest :=
  cloop (t2 (salvage_ofParts_L1_c l)) (out, 0)
theorem le_salvage_ofParts (out : api_Rest) (l : List api_Rest) : Le (salvage_ofParts_c out l) (salvage_ofParts out l) := by
  unfold salvage_ofParts_c salvage_ofParts
  with_reducible repeat' (first | exact Le.refl _ | apply Le.bind | apply Le.loop | apply Le.t2 | apply le_salvage_ofParts_L1 | intro _)

noncomputable def salvage_some_1_c (s : Int) (c0 : Int) (c1 : Int) : Option Bool :=
  some ((decide (s = c0)) || (decide (s = c1)))
theorem le_salvage_some_1 (s : Int) (c0 : Int) (c1 : Int) : Le (salvage_some_1_c s c0 c1) (salvage_some_1 s c0 c1) := by
  unfold salvage_some_1_c salvage_some_1
  with_reducible repeat' (first | exact Le.refl _ | apply Le.bind | intro _)

noncomputable def salvage_some_c (r_ : api_Rest) (a : Int) (b : Int) : Option Bool :=
  (slc r_.States.toList 0 (64 : Int)).bind fun l =>
  (slices_ContainsFunc_int_int_c l (fun z0 => salvage_some_1_c z0 a b)).bind fun y =>
  some y
theorem le_salvage_some (r_ : api_Rest) (a : Int) (b : Int) : Le (salvage_some_c r_ a b) (salvage_some r_ a b) := by
  unfold salvage_some_c salvage_some
  with_reducible repeat' (first | exact Le.refl _ | apply Le.bind | apply le_slices_ContainsFunc_int_int | apply le_salvage_some_1 | intro _)

noncomputable def salvage_soundAs_c (f : Vector Int 64) (number : Int) : Option Bool :=
  (frame_Number_c f).bind fun y =>
  (frame_Sound_c f).bind fun y2 =>
  some (y2 && (decide (y.1 = number)))
theorem le_salvage_soundAs (f : Vector Int 64) (number : Int) : Le (salvage_soundAs_c f number) (salvage_soundAs f number) := by
  unfold salvage_soundAs_c salvage_soundAs
  with_reducible repeat' (first | exact Le.refl _ | apply Le.bind | apply le_frame_Number | apply le_frame_Sound | intro _)

noncomputable def salvage_merge_c (l : List api_Rest) : Option api_Rest :=
  (idx l 0).bind fun x =>
  ((cloop (t2 (salvage_merge_L1_c l)) (0, 0)) : Option ((Int))).bind (t1 fun (Copies : Int) =>
  (slices_ContainsFunc_api_Rest_api_Rest_c l (fun z0 => salvage_merge_1_c z0)).bind fun y =>
  (salvage_ofSound_c (api_Rest.mk x.Number (Vector.replicate 64 0) (Vector.replicate 64 0) false Copies false) l).bind fun y2 =>
  if (y || (!y2.1)) = true then
  some (api_Rest.mk y2.2.Number (Vector.replicate 64 0) (Vector.replicate 64 0) false y2.2.Copies true)
  else
  ((if (!y2.2.Sound) = true then
  (salvage_ofParts_c y2.2 l).bind fun y3 =>
  (salvage_some_c y3 0 0).bind fun y4 =>
  (gd ((!y4) == true) false (salvage_soundAs_c y3.Frame y3.Number)).bind fun y5 =>
  if ((!y4) && y5) = true then
  (salvage_filled_c 3).bind fun y6 =>
  some (api_Rest.mk y3.Number y3.Frame y6 true 1 y3.Conflict)
  else
  some y3
  else
  some y2.2) : Option ((api_Rest))).bind (t1 fun (out : api_Rest) =>
  (gd (out.Sound == true) false (salvage_all_c out 3)).bind fun y7 =>
  if (out.Sound && y7) = true then
  some (api_Rest.mk out.Number out.Frame out.States out.Sound (max out.Copies 1) out.Conflict)
  else
  some out))
theorem le_salvage_merge (l : List api_Rest) : Le (salvage_merge_c l) (salvage_merge l) := by
  unfold salvage_merge_c salvage_merge
  with_reducible repeat' (first | exact Le.refl _ | apply Le.bind | apply Le.ite | apply Le.gd | apply Le.loop | apply Le.t1 | apply Le.t2 | apply le_salvage_merge_L1 | apply le_slices_ContainsFunc_api_Rest_api_Rest | apply le_salvage_merge_1 | apply le_salvage_ofSound | apply le_salvage_ofParts | apply le_salvage_some | apply le_salvage_soundAs | apply le_salvage_filled | apply le_salvage_all | intro _)

noncomputable def salvage_grouped_L2_c (groups : List (Int × (List api_Rest))) (y : List Int) (out2 : List api_Rest) (i2 : Int) : Option (((List api_Rest) × Int) ⊕ ((List api_Rest))) :=
  if (decide (i2 < (y.length : Int))) = true then
  (idx y i2).bind fun x2 =>
  (some (msel (mget kqI groups x2))).bind (Sum.elim (fun z3 =>
  (salvage_merge_c []).bind fun y2 =>
  (app out2 ([y2] : List api_Rest)).bind fun l5 =>
  some (.inl (l5, (i64 (i2 + 1))))) (fun z3 =>
  (salvage_merge_c z3).bind fun y3 =>
  (app out2 ([y3] : List api_Rest)).bind fun l6 =>
  some (.inl (l6, (i64 (i2 + 1))))))
  else
  some (.inr out2)
theorem le_salvage_grouped_L2 (groups : List (Int × (List api_Rest))) (y : List Int) (out2 : List api_Rest) (i2 : Int) : Le (salvage_grouped_L2_c groups y out2 i2) (salvage_grouped_L2 groups y out2 i2) := by
  unfold salvage_grouped_L2_c salvage_grouped_L2
  with_reducible repeat' (first | exact Le.refl _ | apply Le.bind | apply Le.ite | apply Le.elim | apply le_salvage_merge | intro _)

noncomputable def salvage_grouped_c (l : List api_Rest) : Option (List api_Rest) :=
  ((cloop (t3 (salvage_grouped_L1_c l)) (([] : List (Int × (List api_Rest))), [], 0)) : Option (((List (Int × (List api_Rest))) × (List Int)))).bind (t2 fun (groups : List (Int × (List api_Rest))) (numbers : List Int) =>
  (sortC numbers).bind fun y =>
  ((cloop (t2 (salvage_grouped_L2_c groups y)) ([], 0)) : Option (((List api_Rest)))).bind (t1 fun (out : List api_Rest) =>
  some out))
theorem le_salvage_grouped (l : List api_Rest) : Le (salvage_grouped_c l) (salvage_grouped l) := by
  unfold salvage_grouped_c salvage_grouped
  with_reducible repeat' (first | exact Le.refl _ | apply Le.bind | apply Le.loop | apply Le.t1 | apply Le.t2 | apply Le.t3 | apply le_salvage_grouped_L1 | apply le_salvage_grouped_L2 | apply le_sortJ | intro _)

noncomputable def salvage_rests_c (h_ : List Int) : Option (List api_Rest) :=
  (salvage_newFinder_c h_).bind fun y =>
  ((cloop (t2 (salvage_rests_L1_c y)) ([], 0)) : Option (((List api_Rest)))).bind (t1 fun (l : List api_Rest) =>
  (salvage_grouped_c l).bind fun y5 =>
  some y5)
theorem le_salvage_rests (h_ : List Int) : Le (salvage_rests_c h_) (salvage_rests h_) := by
  unfold salvage_rests_c salvage_rests
  with_reducible repeat' (first | exact Le.refl _ | apply Le.bind | apply Le.loop | apply Le.t1 | apply Le.t2 | apply le_salvage_newFinder | apply le_salvage_rests_L1 | apply le_salvage_grouped | intro _)

noncomputable def salvage_Salvage_L2_c (l : List api_Piece) (parts2 : List api_Rest) (i2 : Int) : Option (((List api_Rest) × Int) ⊕ ((List api_Rest))) :=
  if (decide (i2 < (l.length : Int))) = true then
  (idx l i2).bind fun x2 =>
  (salvage_halves_c x2).bind fun y2 =>
  (salvage_rests_c y2).bind fun y3 =>
  (app parts2 y3).bind fun l2 =>
  some (.inl (l2, (i64 (i2 + 1))))
  else
  some (.inr parts2)
theorem le_salvage_Salvage_L2 (l : List api_Piece) (parts2 : List api_Rest) (i2 : Int) : Le (salvage_Salvage_L2_c l parts2 i2) (salvage_Salvage_L2 l parts2 i2) := by
  unfold salvage_Salvage_L2_c salvage_Salvage_L2
  with_reducible repeat' (first | exact Le.refl _ | apply Le.bind | apply Le.ite | apply le_salvage_halves | apply le_salvage_rests | intro _)

noncomputable def salvage_mended_L1_c (r_ : api_Rest) (lost2 : Int) (place2 : Int) (i : Int) : Option ((Int × Int × Int) ⊕ (Int × Int)) :=
  if (decide (i < 64)) = true then
  (vidx r_.States i).bind fun x =>
  if (decide (x = 0)) = true then
  some (.inl ((i64 (lost2 + 1)), i, (i64 (i + 1))))
  else
  some (.inl (lost2, place2, (i64 (i + 1))))
  else
  some (.inr (lost2, place2))
theorem le_salvage_mended_L1 (r_ : api_Rest) (lost2 : Int) (place2 : Int) (i : Int) : Le (salvage_mended_L1_c r_ lost2 place2 i) (salvage_mended_L1 r_ lost2 place2 i) := by
  unfold salvage_mended_L1_c salvage_mended_L1
  with_reducible repeat' (first | exact Le.refl _ | apply Le.bind | apply Le.ite | intro _)

noncomputable def frame_word_c (data : Int) : Option Int :=
  (frame_odd_c (u16 data)).bind fun y =>
  if (!y) = true then
  some (bor .u16 (u16 data) 2048)
  else
  some (u16 data)
theorem le_frame_word (data : Int) : Le (frame_word_c data) (frame_word data) := by
  unfold frame_word_c frame_word
  with_reducible repeat' (first | exact Le.refl _ | apply Le.bind | apply Le.ite | apply le_frame_odd | intro _)

noncomputable def frame_replaced_c (f : Vector Int 64) (i : Int) : Option (Vector Int 64) :=
  ((if (decide (i = 0)) = true then
  (frame_numberOf_c f).bind fun y =>
  (rem y 4).bind fun q =>
  (vidx gv_frame_syncs q).bind fun x =>
  (vidx f 0).bind fun x2 =>
  some (vset f 0 x)
  else
  if (decide (i = 61)) = true then
  (frame_sumOf_c f).bind fun y2 =>
  (frame_word_c y2).bind fun y3 =>
  (vidx f i).bind fun x3 =>
  some (vset f i y3)
  else
  if (decide (i = 62)) = true then
  (frame_checkOf_c f).bind fun y4 =>
  (shr .i64 y4 11).bind fun q2 =>
  (frame_word_c q2).bind fun y5 =>
  (vidx f i).bind fun x4 =>
  some (vset f i y5)
  else
  if (decide (i = 63)) = true then
  (frame_checkOf_c f).bind fun y6 =>
  (frame_word_c (band .i64 y6 2047)).bind fun y7 =>
  (vidx f i).bind fun x5 =>
  some (vset f i y7)
  else
  (frame_sumOf_c f).bind fun y8 =>
  (vidx f i).bind fun x6 =>
  (frame_data_c x6).bind fun y9 =>
  (vidx f 61).bind fun x7 =>
  (frame_data_c x7).bind fun y10 =>
  (frame_word_c (bxor .i64 (bxor .i64 y8 y9) y10)).bind fun y11 =>
  (vidx f i).bind fun x8 =>
  some (vset f i y11)) : Option (((Vector Int 64)))).bind (t1 fun (f2 : Vector Int 64) =>
  some f2)
theorem le_frame_replaced (f : Vector Int 64) (i : Int) : Le (frame_replaced_c f i) (frame_replaced f i) := by
  unfold frame_replaced_c frame_replaced
  with_reducible repeat' (first | exact Le.refl _ | apply Le.bind | apply Le.ite | apply Le.t1 | apply le_frame_numberOf | apply le_frame_sumOf | apply le_frame_word | apply le_frame_checkOf | apply le_frame_data | intro _)

noncomputable def frame_Replaced_c (f : Vector Int 64) (i : Int) : Option ((Vector Int 64) × Bool) :=
  if ((decide (i < 0)) || (decide (64 ≤ i))) = true then
  some ((#v[0, 0, 0, 0, 0, 0, 0, 0, 0, 0, 0, 0, 0, 0, 0, 0, 0, 0, 0, 0, 0, 0, 0, 0, 0, 0, 0, 0, 0, 0, 0, 0, 0, 0, 0, 0, 0, 0, 0, 0, 0, 0, 0, 0, 0, 0, 0, 0, 0, 0, 0, 0, 0, 0, 0, 0, 0, 0, 0, 0, 0, 0, 0, 0] : Vector Int 64), false)
  else
  (vidx f i).bind fun x =>
  (frame_wide_c (vset f i 0)).bind fun y =>
  if y = true then
  some ((#v[0, 0, 0, 0, 0, 0, 0, 0, 0, 0, 0, 0, 0, 0, 0, 0, 0, 0, 0, 0, 0, 0, 0, 0, 0, 0, 0, 0, 0, 0, 0, 0, 0, 0, 0, 0, 0, 0, 0, 0, 0, 0, 0, 0, 0, 0, 0, 0, 0, 0, 0, 0, 0, 0, 0, 0, 0, 0, 0, 0, 0, 0, 0, 0] : Vector Int 64), false)
  else
  (frame_replaced_c (vset f i 0) i).bind fun y2 =>
  (frame_sound_c y2).bind fun y3 =>
  if (!y3) = true then
  some ((#v[0, 0, 0, 0, 0, 0, 0, 0, 0, 0, 0, 0, 0, 0, 0, 0, 0, 0, 0, 0, 0, 0, 0, 0, 0, 0, 0, 0, 0, 0, 0, 0, 0, 0, 0, 0, 0, 0, 0, 0, 0, 0, 0, 0, 0, 0, 0, 0, 0, 0, 0, 0, 0, 0, 0, 0, 0, 0, 0, 0, 0, 0, 0, 0] : Vector Int 64), false)
  else
  some (y2, true)
theorem le_frame_Replaced (f : Vector Int 64) (i : Int) : Le (frame_Replaced_c f i) (frame_Replaced f i) := by
  unfold frame_Replaced_c frame_Replaced
  with_reducible repeat' (first | exact Le.refl _ | apply Le.bind | apply Le.ite | apply le_frame_wide | apply le_frame_replaced | apply le_frame_sound | intro _)

noncomputable def salvage_mended_c (r_ : api_Rest) : Option api_Rest :=
  if (r_.Sound || r_.Conflict) = true then
  some r_
  else
  ((cloop (t3 (salvage_mended_L1_c r_)) (0, 0, 0)) : Option ((Int × Int))).bind (t2 fun (lost : Int) (place : Int) =>
  if (!decide (lost = 1)) = true then
  some r_
  else
  (frame_Replaced_c r_.Frame place).bind fun y =>
  (gd ((!y.2) == false) false (salvage_soundAs_c y.1 r_.Number)).bind fun y2 =>
  if ((!y.2) || (!y2)) = true then
  some r_
  else
  (salvage_filled_c 3).bind fun y3 =>
  (vidx y3 place).bind fun x2 =>
  some (api_Rest.mk r_.Number y.1 (vset y3 place 2) true 0 r_.Conflict))
theorem le_salvage_mended (r_ : api_Rest) : Le (salvage_mended_c r_) (salvage_mended r_) := by
  unfold salvage_mended_c salvage_mended
  with_reducible repeat' (first | exact Le.refl _ | apply Le.bind | apply Le.ite | apply Le.gd | apply Le.loop | apply Le.t2 | apply Le.t3 | apply le_salvage_mended_L1 | apply le_frame_Replaced | apply le_salvage_soundAs | apply le_salvage_filled | intro _)

noncomputable def salvage_Salvage_L3_c (y4 : (List api_Rest)) (out2 : List api_Rest) (i3 : Int) : Option (((List api_Rest) × Int) ⊕ ((List api_Rest))) :=
  if (decide (i3 < (y4.length : Int))) = true then
  (idx out2 i3).bind fun x5 =>
  (salvage_mended_c x5).bind fun y5 =>
  (idx out2 i3).bind fun x6 =>
  some (.inl ((out2.set i3.toNat y5), (i64 (i3 + 1))))
  else
  some (.inr out2)
theorem le_salvage_Salvage_L3 (y4 : (List api_Rest)) (out2 : List api_Rest) (i3 : Int) : Le (salvage_Salvage_L3_c y4 out2 i3) (salvage_Salvage_L3 y4 out2 i3) := by
  unfold salvage_Salvage_L3_c salvage_Salvage_L3
  with_reducible repeat' (first | exact Le.refl _ | apply Le.bind | apply Le.ite | apply le_salvage_mended | intro _)

noncomputable def salvage_Salvage_c (l : List api_Piece) : Option ((List api_Rest) × Int) :=
  if (decide (200 < (l.length : Int))) = true then
  some ([], 3)
  else
  ((cloop (t1 (salvage_Salvage_L1_c l)) 0) : Option (((List api_Rest) × Int) ⊕ (Unit))).bind (Sum.elim (fun q' => some q') (t0 (((cloop (t2 (salvage_Salvage_L2_c l)) ([], 0)) : Option (((List api_Rest)))).bind (t1 fun (parts : List api_Rest) =>
  (salvage_grouped_c parts).bind fun y4 =>
  (gd ((decide (0 < (y4.length : Int))) == true) (api_Rest.mk 0 (Vector.replicate 64 0) (Vector.replicate 64 0) false 0 false) (idx y4 (i64 ((y4.length : Int) - 1)))).bind fun x3 =>
  (gd ((decide (0 < (y4.length : Int))) == true) (api_Rest.mk 0 (Vector.replicate 64 0) (Vector.replicate 64 0) false 0 false) (idx y4 0)).bind fun x4 =>
  if ((decide (0 < (y4.length : Int))) && (decide (100000 < (i64 (x3.Number - x4.Number))))) = true then
  some ([], 3)
  else
  ((cloop (t2 (salvage_Salvage_L3_c y4)) (y4, 0)) : Option (((List api_Rest)))).bind (t1 fun (out : List api_Rest) =>
  some (out, 0))))))
theorem le_salvage_Salvage (l : List api_Piece) : Le (salvage_Salvage_c l) (salvage_Salvage l) := by
  unfold salvage_Salvage_c salvage_Salvage
  with_reducible repeat' (first | exact Le.refl _ | apply Le.bind | apply Le.ite | apply Le.gd | apply Le.loop | apply Le.t0 | apply Le.t1 | apply Le.t2 | apply Le.elim | apply le_salvage_Salvage_L1 | apply le_salvage_Salvage_L2 | apply le_salvage_grouped | apply le_salvage_Salvage_L3 | intro _)

noncomputable def law4_saved_c : Option Bool :=
  (mks 58 0).bind fun l =>
  (ref1_New_c 9 l).bind fun y =>
  (ref1_ToBytes_c y.1).bind fun y2 =>
  (app ([7] : List Int) y2.1).bind fun l2 =>
  (salvage_Salvage_c ([(api_Piece.mk l2 false)] : List api_Piece)).bind fun y3 =>
  (gd (((decide (y3.2 = 0)) && (decide ((y3.1.length : Int) = 1))) == true) (api_Rest.mk 0 (Vector.replicate 64 0) (Vector.replicate 64 0) false 0 false) (idx y3.1 0)).bind fun x =>
  (gd ((((decide (y3.2 = 0)) && (decide ((y3.1.length : Int) = 1))) && (decide (x.Number = 9))) == true) (api_Rest.mk 0 (Vector.replicate 64 0) (Vector.replicate 64 0) false 0 false) (idx y3.1 0)).bind fun x2 =>
  (gd (((((decide (y3.2 = 0)) && (decide ((y3.1.length : Int) = 1))) && (decide (x.Number = 9))) && (decide (x2.Frame = y.1))) == true) (api_Rest.mk 0 (Vector.replicate 64 0) (Vector.replicate 64 0) false 0 false) (idx y3.1 0)).bind fun x3 =>
  (gd ((((((decide (y3.2 = 0)) && (decide ((y3.1.length : Int) = 1))) && (decide (x.Number = 9))) && (decide (x2.Frame = y.1))) && x3.Sound) == true) (api_Rest.mk 0 (Vector.replicate 64 0) (Vector.replicate 64 0) false 0 false) (idx y3.1 0)).bind fun x4 =>
  (gd (((((((decide (y3.2 = 0)) && (decide ((y3.1.length : Int) = 1))) && (decide (x.Number = 9))) && (decide (x2.Frame = y.1))) && x3.Sound) && (decide (x4.Copies = 1))) == true) (api_Rest.mk 0 (Vector.replicate 64 0) (Vector.replicate 64 0) false 0 false) (idx y3.1 0)).bind fun x5 =>
  (gd (((((((decide (y3.2 = 0)) && (decide ((y3.1.length : Int) = 1))) && (decide (x.Number = 9))) && (decide (x2.Frame = y.1))) && x3.Sound) && (decide (x4.Copies = 1))) == true) 0 (vidx x5.States 63)).bind fun x6 =>
  some (((((((decide (y3.2 = 0)) && (decide ((y3.1.length : Int) = 1))) && (decide (x.Number = 9))) && (decide (x2.Frame = y.1))) && x3.Sound) && (decide (x4.Copies = 1))) && (decide (x6 = 3)))
theorem le_law4_saved : Le (law4_saved_c ) (law4_saved ) := by
  unfold law4_saved_c law4_saved
  with_reducible repeat' (first | exact Le.refl _ | apply Le.bind | apply Le.gd | apply le_ref1_New | apply le_ref1_ToBytes | apply le_salvage_Salvage | intro _)
end Go.Vx

namespace Go.Vx
open Go Go.RowKit
theorem saved_s : law4_saved = some true := le_law4_saved _ (by decide +kernel)
end Go.Vx

namespace Go.Vx
open Go Go.RowKit
def hvB (bs : List Int) : List Int := bs.flatMap fun b => [b / 16, b % 16]
def hv (p : api_Piece) : List Int := if p.Half = true then (hvB p.Bytes).drop 1 else hvB p.Bytes
def u8L (l : List Int) : Prop := ∀ x ∈ l, 0 ≤ x ∧ x ≤ 255
def lowB : List Int → Bool
  | [] => false
  | x :: _ => decide (x ≤ 15)
def chkP (p : api_Piece) : Int := if 200000 < (p.Bytes.length : Int) then 3 else if (p.Half && !lowB p.Bytes) = true then 2 else 0
theorem wf_u8 {n : Int} (h : wfI .u8 n) : 0 ≤ n ∧ n ≤ 255 := by
  have h' : (decide (IntKind.u8.min ≤ n) && decide (n ≤ IntKind.u8.max)) = true := h
  have e1 : IntKind.u8.min = 0 := by decide
  have e2 : IntKind.u8.max = 255 := by decide
  rw [e1, e2] at h'
  simpa using h'
theorem wf_bytes {p : api_Piece} (h : wf_api_Piece p) : u8L p.Bytes := fun x hx => wf_u8 (h.1.2 x hx)
theorem i64v {z : Int} (h1 : -9223372036854775808 ≤ z) (h2 : z ≤ 9223372036854775807) : i64 z = z := i64_id h1 h2
theorem shr8_4 (x : Int) : shr .u8 x 4 = some (x / 16) := by
  unfold shr
  rw [if_neg (by decide)]
  have e : (2 : Int) ^ min (Int.toNat 4) IntKind.u8.bits = 16 := by decide
  rw [e, Int.fdiv_eq_ediv_of_nonneg _ (by decide)]
theorem shr8_0 (x : Int) : shr .u8 x 0 = some x := by
  unfold shr
  rw [if_neg (by decide)]
  have e : (2 : Int) ^ min (Int.toNat 0) IntKind.u8.bits = 1 := by decide
  rw [e, Int.fdiv_eq_ediv_of_nonneg _ (by decide), Int.ediv_one]
theorem band15_all : (List.range 256).all (fun n => decide (band .u8 (n : Int) 15 = ((n % 16 : Nat) : Int))) = true := by decide +kernel
theorem band15 {x : Int} (h : 0 ≤ x ∧ x ≤ 255) : band .u8 x 15 = x % 16 := by
  have := List.all_eq_true.1 band15_all x.toNat (List.mem_range.2 (by omega))
  simp only [decide_eq_true_eq] at this
  rw [show ((x.toNat : Nat) : Int) = x by omega] at this
  rw [this]; omega
theorem CheckPiece_s (p : api_Piece) (h : u8L p.Bytes) : salvage_CheckPiece p = some (chkP p) := by
  unfold salvage_CheckPiece chkP
  by_cases h1 : 200000 < (p.Bytes.length : Int)
  · rw [if_pos (by simpa using h1), if_pos h1]
  · rw [if_neg (by simpa using h1), if_neg h1]
    obtain ⟨bs, hf⟩ := p
    simp only at h ⊢
    cases hf
    · simp
    · cases bs with
      | nil => simp [lowB]
      | cons x tl =>
        have hx := h x (List.mem_cons_self ..)
        have e0 : ¬ ((x :: tl).length : Int) = 0 := by simp; omega
        have e1 : idx (x :: tl) 0 = some x := by simp [idx]
        have e2 : (x / 16 = 0) ↔ x ≤ 15 := by omega
        simp only [e0, decide_false, e1, lowB, Bool.true_and, beq_self_eq_true, Bool.and_self, gd_t, Option.bind_some, shr8_4, Bool.false_or, e2]
        split <;> rfl
theorem rCheckPiece_s (p : api_Piece) (h : u8L p.Bytes) : ref4_CheckPiece p = some (chkP p) := by
  unfold ref4_CheckPiece chkP
  by_cases h1 : 200000 < (p.Bytes.length : Int)
  · rw [if_pos (by simpa using h1), if_pos h1]
  · rw [if_neg (by simpa using h1), if_neg h1]
    obtain ⟨bs, hf⟩ := p
    simp only at h ⊢
    cases hf
    · simp
    · cases bs with
      | nil => simp [lowB]
      | cons x tl =>
        have hx := h x (List.mem_cons_self ..)
        have e0 : ¬ ((x :: tl).length : Int) = 0 := by simp; omega
        have e1 : idx (x :: tl) 0 = some x := by simp [idx]
        have e2 : (decide (15 < x)) = !decide (x ≤ 15) := by rw [← decide_not]; congr 1; simp
        simp only [e0, decide_false, e1, lowB, Bool.true_and, beq_self_eq_true, Bool.and_self, gd_t, Option.bind_some, Bool.false_or, e2]
        split <;> rfl
theorem chk_ok {p : api_Piece} (h : chkP p = 0) : p.Bytes.length ≤ 200000 ∧ (p.Half = true → ∃ x tl, p.Bytes = x :: tl ∧ x ≤ 15) := by
  unfold chkP at h
  split at h
  · cases h
  · rename_i h1
    split at h
    · cases h
    · rename_i h2
      refine ⟨by omega, fun hf => ?_⟩
      rw [hf] at h2
      cases hb : p.Bytes with
      | nil => rw [hb] at h2; simp [lowB] at h2
      | cons x tl => rw [hb] at h2; simp [lowB] at h2; exact ⟨x, tl, rfl, h2⟩
theorem hvB_len (bs : List Int) : (hvB bs).length = 2 * bs.length := by
  unfold hvB
  induction bs with
  | nil => rfl
  | cons b bs ih => simp only [List.flatMap_cons, List.length_append, ih, List.length_cons, List.length_nil]; omega
theorem hvB_get {bs : List Int} {k : Nat} {b : Int} (h : bs[k]? = some b) : (hvB bs)[2 * k]? = some (b / 16) ∧ (hvB bs)[2 * k + 1]? = some (b % 16) := by
  induction bs generalizing k with
  | nil => simp at h
  | cons x bs ih =>
    have e : hvB (x :: bs) = x / 16 :: x % 16 :: hvB bs := rfl
    rw [e]
    cases k with
    | zero => simp at h; subst h; exact ⟨rfl, rfl⟩
    | succ k =>
      obtain ⟨h1, h2⟩ := ih (k := k) (by simpa using h)
      have e1 : 2 * (k + 1) = 2 * k + 1 + 1 := by omega
      rw [e1]
      exact ⟨by simpa using h1, by simpa using h2⟩
theorem hvB_bd {bs : List Int} (h : u8L bs) : ∀ x ∈ hvB bs, 0 ≤ x ∧ x ≤ 15 := by
  intro x hx
  obtain ⟨b, hb, hx⟩ := List.mem_flatMap.1 hx
  have := h b hb
  simp only [List.mem_cons, List.not_mem_nil, or_false] at hx
  rcases hx with rfl | rfl <;> omega
theorem hv_bd {p : api_Piece} (h : u8L p.Bytes) : ∀ x ∈ hv p, 0 ≤ x ∧ x ≤ 15 := by
  intro x hx
  unfold hv at hx
  split at hx
  · exact hvB_bd h x (List.mem_of_mem_drop hx)
  · exact hvB_bd h x hx
def ahN (p : api_Piece) : Nat := if p.Half = true then 1 else 0
theorem ahead_s (p : api_Piece) : salvage_ahead p = some (ahN p : Int) := by
  unfold salvage_ahead ahN
  split <;> rfl
theorem hv_eq (p : api_Piece) : hv p = (hvB p.Bytes).drop (ahN p) := by
  unfold hv ahN
  split <;> simp
theorem hv_len (p : api_Piece) : (hv p).length = 2 * p.Bytes.length - ahN p := by rw [hv_eq, List.length_drop, hvB_len]
theorem ah_le {p : api_Piece} (h : chkP p = 0) : ahN p ≤ 1 ∧ ahN p ≤ 2 * p.Bytes.length := by
  unfold ahN
  split
  · rename_i hf
    obtain ⟨x, tl, hb, _⟩ := (chk_ok h).2 hf
    rw [hb]; simp; omega
  · simp
theorem length_s {p : api_Piece} (h : chkP p = 0) : salvage_length p = some ((hv p).length : Int) := by
  have hl := (chk_ok h).1
  have ha := ah_le h
  unfold salvage_length
  rw [ahead_s, Option.bind_some, i64v (z := 2 * (p.Bytes.length : Int)) (by omega) (by omega), i64v (by omega) (by omega), hv_len]
  congr 1
  omega
theorem halfOf_s {bs : List Int} (h : u8L bs) {j : Nat} {x : Int} (hl : bs.length ≤ 200000) (hj : (hvB bs)[j]? = some x) : salvage_halfOf bs (j : Int) = some x := by
  have hjl := (List.getElem?_eq_some_iff.1 hj).1
  rw [hvB_len] at hjl
  obtain ⟨b, hb⟩ := get_ex (xs := bs) (k := j / 2) (by omega)
  have hbb := h b (List.mem_of_getElem? hb)
  obtain ⟨g1, g2⟩ := hvB_get hb
  have eq : quo .i64 (j : Int) 2 = some ((j / 2 : Nat) : Int) := by
    unfold quo
    rw [if_neg (by decide), Int.tdiv_eq_ediv_of_nonneg (by omega)]
    have : (j : Int) / 2 = ((j / 2 : Nat) : Int) := by omega
    rw [this]
    exact congrArg some (i64v (by omega) (by omega))
  have er : rem (j : Int) 2 = some ((j % 2 : Nat) : Int) := by
    unfold rem
    rw [if_neg (by decide), Int.tmod_eq_emod_of_nonneg (by omega)]
    rfl
  unfold salvage_halfOf
  rw [eq, Option.bind_some, idx_of hb, Option.bind_some, er, Option.bind_some]
  rcases Nat.mod_two_eq_zero_or_one j with hm | hm
  · have e : i64 (4 - i64 (4 * ((j % 2 : Nat) : Int))) = 4 := by rw [hm]; rfl
    have ej : 2 * (j / 2) = j := by omega
    rw [ej, hj] at g1
    cases g1
    rw [e, shr8_4, Option.bind_some, band15 (by omega)]
    congr 1; omega
  · have e : i64 (4 - i64 (4 * ((j % 2 : Nat) : Int))) = 0 := by rw [hm]; rfl
    have ej : 2 * (j / 2) + 1 = j := by omega
    rw [ej, hj] at g2
    cases g2
    rw [e, shr8_0, Option.bind_some, band15 hbb]
theorem loop_fill {body : List Int → Int → Option ((List Int × Int) ⊕ List Int)} (xs : List Int)
    (hstep : ∀ (k : Nat) acc x, acc.length = xs.length → xs[k]? = some x → body acc k = some (.inl (acc.set k x, (k : Int) + 1))) (hend : ∀ acc, body acc xs.length = some (.inr acc)) {l0 : List Int} (h0 : l0.length = xs.length) :
    loop (t2 body) (l0, 0) = some xs := by
  have := loop_to (body := t2 body) (fun p => ∃ k : Nat, p.2 = k ∧ k ≤ xs.length ∧ p.1.length = xs.length ∧ p.1.take k = xs.take k) (fun p => xs.length - p.2.toNat) (fun _ => xs) (by
    rintro ⟨acc, i⟩ ⟨k, hi, hk, hl, ht⟩
    simp only at hi hl ht
    subst hi
    simp only [t2_mk]
    rcases Nat.lt_or_ge k xs.length with hlt | hge
    · left
      obtain ⟨x, hx⟩ := get_ex hlt
      refine ⟨_, hstep k acc x hl hx, ⟨k + 1, by push_cast; rfl, hlt, by simpa using hl, ?_⟩, by simp only; omega, trivial⟩
      simp only
      rw [List.take_add_one, List.take_add_one, List.getElem?_set_self (by omega), hx, List.take_set_of_le (Nat.le_refl _), ht]
    · right
      have : k = xs.length := by omega
      subst this
      rw [List.take_of_length_le (by omega), List.take_of_length_le (by omega)] at ht
      rw [ht]; exact hend xs) (l0, 0) ⟨0, rfl, Nat.zero_le _, h0, by simp⟩
  exact this
theorem halves_s {p : api_Piece} (hu : u8L p.Bytes) (h : chkP p = 0) : salvage_halves p = some (hv p) := by
  have hl := (chk_ok h).1
  have ha := ah_le h
  have hlen := hv_len p
  unfold salvage_halves
  rw [length_s h, Option.bind_some]
  have hm : mks ((hv p).length : Int) (0 : Int) = some (List.replicate (hv p).length 0) := by
    unfold mks; rw [if_pos (by omega)]; simp
  rw [hm, Option.bind_some]
  have := loop_fill (body := salvage_halves_L1 p (List.replicate (hv p).length 0)) (hv p) (fun k acc x hacc hx => by
    have hk := (List.getElem?_eq_some_iff.1 hx).1
    have hx' := hx
    rw [hv_eq, List.getElem?_drop] at hx'
    have e : i64 ((k : Int) + (ahN p : Int)) = ((ahN p + k : Nat) : Int) := by rw [i64v (by omega) (by omega)]; push_cast; omega
    obtain ⟨y, hy⟩ := get_ex (xs := acc) (k := k) (by omega)
    have hc : (k : Int) < (((List.replicate (hv p).length (0 : Int)).length : Nat) : Int) := by simp; omega
    unfold salvage_halves_L1
    rw [if_pos (by simpa using hc), ahead_s, Option.bind_some, e, halfOf_s hu hl hx', Option.bind_some, idx_of hy, Option.bind_some, i64v (by omega) (by omega)]
    rfl) (fun acc => by unfold salvage_halves_L1; rw [if_neg (by simp)]) (l0 := List.replicate (hv p).length 0) (by simp)
  rw [this]
  rfl
theorem rHalves_g {p : api_Piece} (hu : u8L p.Bytes) (h : p.Bytes.length ≤ 4000000) : ref4_Halves p = some (hv p) := by
  have key : ∀ (k : Nat), (hvB (p.Bytes.take k)).length = 2 * min k p.Bytes.length := fun k => by rw [hvB_len, List.length_take]
  have := loop_to (body := t2 (ref4_Halves_L1 p)) (fun s => ∃ k : Nat, s.2 = k ∧ k ≤ p.Bytes.length ∧ s.1 = (hvB (p.Bytes.take k)).drop (ahN p)) (fun s => p.Bytes.length - s.2.toNat) (fun _ => hv p) (by
    rintro ⟨acc, i⟩ ⟨k, hi, hk, hac⟩
    simp only at hi hac
    subst hi
    simp only [t2_mk]
    rcases Nat.lt_or_ge k p.Bytes.length with hlt | hge
    · left
      obtain ⟨x, hx⟩ := get_ex hlt
      have hxb := hu x (List.mem_of_getElem? hx)
      have hc := lt_of hx
      have hq : quo .u8 x 16 = some (x / 16) := by
        unfold quo
        rw [if_neg (by decide), Int.tdiv_eq_ediv_of_nonneg (by omega)]
        congr 1
        have : ∀ z : Int, 0 ≤ z → z ≤ 255 → IntKind.u8.wrap z = z := fun z h1 h2 => by
          unfold IntKind.wrap
          have e : (2 : Int) ^ IntKind.u8.bits = 256 := by decide
          have e2 : IntKind.u8.signed = false := rfl
          simp only [e, e2]
          simp
          omega
        exact this _ (by omega) (by omega)
      have hr : rem x 16 = some (x % 16) := by
        unfold rem
        rw [if_neg (by decide), Int.tmod_eq_emod_of_nonneg (by omega)]
      have htk : p.Bytes.take (k + 1) = p.Bytes.take k ++ [x] := by rw [List.take_add_one, hx]; rfl
      have hB : hvB (p.Bytes.take (k + 1)) = hvB (p.Bytes.take k) ++ [x / 16, x % 16] := by rw [htk]; simp [hvB]
      have hlen : acc.length ≤ 2 * k := by rw [hac, List.length_drop, key]; omega
      refine ⟨((hvB (p.Bytes.take (k + 1))).drop (ahN p), (k : Int) + 1), ?_, ⟨k + 1, by push_cast; rfl, hlt, rfl⟩, by simp only; omega, trivial⟩
      unfold ref4_Halves_L1
      rw [if_pos (by simpa using hc), idx_of hx, Option.bind_some]
      rw [hB]
      by_cases h0 : (decide (0 < (k : Int)) || !p.Half) = true
      · rw [if_pos h0, hq, Option.bind_some, app_of (by simp; omega), Option.bind_some, Option.bind_some, t1_mk, hr, Option.bind_some, app_of (by simp; omega), Option.bind_some, i64v (by omega) (by omega)]
        have hle : ahN p ≤ (hvB (p.Bytes.take k)).length := by
          rw [key]
          unfold ahN
          split
          · rename_i hf; simp [hf] at h0; omega
          · omega
        rw [hac, List.drop_append_of_le_length hle, List.append_assoc]; rfl
      · rw [if_neg h0]
        simp only [Bool.or_eq_true, decide_eq_true_eq, Bool.not_eq_true', not_or, Bool.not_eq_false] at h0
        obtain ⟨h1, h2⟩ := h0
        obtain rfl : k = 0 := by omega
        have ea : ahN p = 1 := by unfold ahN; rw [if_pos h2]
        rw [ea] at hac ⊢
        have e0 : hvB (p.Bytes.take 0) = [] := rfl
        rw [e0] at hac ⊢
        simp only [List.drop_nil] at hac
        subst hac
        simp only [Option.bind_some, t1_mk, hr]
        rw [app_of (by simp)]
        rfl
    · right
      have : k = p.Bytes.length := by omega
      subst this
      unfold ref4_Halves_L1
      rw [if_neg (by simp), hac, hv_eq, List.take_length]) ([], 0) ⟨0, rfl, Nat.zero_le _, by simp [hvB]⟩
  unfold ref4_Halves
  rw [this]
  rfl
theorem rHalves_s {p : api_Piece} (hu : u8L p.Bytes) (h : p.Bytes.length ≤ 200000) : ref4_Halves p = some (hv p) := rHalves_g hu (by omega)
end Go.Vx
