/- A text of the proof: a verified executor of the program form, or the contracts of the functions that the law reaches. -/
import Derived.Test.YtdacciininlfmaaGreatDoorShLib
import Derived.Test.YtdacciininlfmaaGreatDoorShT
import Derived.Test.YtdacciininlfmaaGreatDoorVH
import Derived.Test.YtdacciininlfmaaGreatDoorVP
set_option linter.all false
namespace Go.Vx
open Go Go.RowKit
theorem ZcP {z : Int} (h1 : -9223372036854775808 ≤ z) (h2 : z ≤ 9223372036854775807) : IntKind.i64.wrap z = z := w64 h1 h2
@[simp] theorem ZhJ {α : Type} {d : α} {o : Option α} : gd true d o = o := rfl
@[simp] theorem ZrE {α : Type} {d : α} {o : Option α} : gd false d o = some d := rfl
@[simp] theorem ZkA {α : Type} {d : α} {o : Option α} : gd (true == true) d o = o := rfl
theorem ZE {α : Type} {xs : List α} {k : Nat} {x : α} (h : xs[k]? = some x) : idx xs (k : Int) = some x := by simp [idx, h]
theorem Xh {α : Type} {xs : List α} {k : Nat} {x : α} (h : xs[k]? = some x) : (k : Int) < (xs.length : Int) := by
  have := (List.getElem?_eq_some_iff.1 h).1; omega
theorem ZU {α : Type} {xs : List α} {k : Nat} (h : k < xs.length) : ∃ x, xs[k]? = some x := ⟨xs[k], List.getElem?_eq_getElem h⟩
theorem ZO {α : Type} {xs : List α} {k : Nat} {x : α} (h : xs[k]? = some x) : xs.drop k = x :: xs.drop (k + 1) := by
  obtain ⟨hk, rfl⟩ := List.getElem?_eq_some_iff.1 h
  exact List.drop_eq_getElem_cons hk
theorem Zb0 {α : Type} {xs ys : List α} (h : xs.length + ys.length ≤ 4294967296) : app xs ys = some (xs ++ ys) := by simp [app, h]

section loops
variable {σ ρ : Type}
theorem Za5 {body : σ → Option (σ ⊕ ρ)} (I : σ → Prop) (μ : σ → Nat) (F : σ → ρ) (step : ∀ s, I s → (∃ s', body s = some (.inl s') ∧ I s' ∧ μ s' < μ s ∧ F s = F s') ∨ body s = some (.inr (F s))) :
    ∀ s, I s → loop body s = some (F s) := by
  intro s hs
  obtain ⟨r, h1, h2⟩ := Zdz (body := body) (fun s' => I s' ∧ F s = F s') μ (fun r => r = F s) (fun s' ⟨h1, h2⟩ => by
    rcases step s' h1 with ⟨s2, e1, e2, e3, e4⟩ | e
    · exact .inl ⟨s2, e1, ⟨e2, h2.trans e4⟩, e3⟩
    · exact .inr ⟨_, e, h2.symm⟩) s ⟨hs, rfl⟩
  rw [h1, h2]
variable {α : Type} {xs : List α}
theorem Zf2 {body : Int → Option (Int ⊕ ρ)} (F : Nat → ρ)
    (hstep : ∀ (k : Nat) x, xs[k]? = some x → (body k = some (.inl ((k : Int) + 1)) ∧ F k = F (k + 1)) ∨ body k = some (.inr (F k)))
    (hend : body xs.length = some (.inr (F xs.length))) : loop (t1 body) 0 = some (F 0) := by
  refine Za5 (body := t1 body) (fun i => ∃ k : Nat, i = k ∧ k ≤ xs.length) (fun i => xs.length - i.toNat) (fun i => F i.toNat) ?_ 0 ⟨0, rfl, Nat.zero_le _⟩
  rintro i ⟨k, rfl, hk⟩
  simp only [Int.toNat_natCast, ZaN]
  rcases Nat.lt_or_ge k xs.length with h | h
  · obtain ⟨x, hx⟩ := ZU h
    rcases hstep k x hx with ⟨h1, h2⟩ | h1
    · exact .inl ⟨_, h1, ⟨k + 1, by push_cast; rfl, h⟩, by omega, by rw [h2]; rfl⟩
    · exact .inr h1
  · have : k = xs.length := by omega
    subst this
    exact .inr hend
theorem ZeI {body : σ → Int → Option ((σ × Int) ⊕ ρ)} (I : σ → Nat → Prop) (F : σ → Nat → ρ)
    (hstep : ∀ a (k : Nat) x, I a k → xs[k]? = some x → (∃ a', body a k = some (.inl (a', (k : Int) + 1)) ∧ I a' (k + 1) ∧ F a k = F a' (k + 1)) ∨ body a k = some (.inr (F a k)))
    (hend : ∀ a, I a xs.length → body a xs.length = some (.inr (F a xs.length))) {a0 : σ} (h0 : I a0 0) : loop (t2 body) (a0, 0) = some (F a0 0) := by
  refine Za5 (body := t2 body) (fun p => ∃ k : Nat, p.2 = k ∧ k ≤ xs.length ∧ I p.1 k) (fun p => xs.length - p.2.toNat) (fun p => F p.1 p.2.toNat) ?_ (a0, 0) ⟨0, rfl, Nat.zero_le _, h0⟩
  rintro ⟨a, i⟩ ⟨k, hi, hk, hI⟩
  simp only at hi hI
  subst hi
  simp only [Int.toNat_natCast, J3]
  rcases Nat.lt_or_ge k xs.length with h | h
  · obtain ⟨x, hx⟩ := ZU h
    rcases hstep a k x hI hx with ⟨a', h1, h2, h3⟩ | h1
    · exact .inl ⟨_, h1, ⟨k + 1, by push_cast; rfl, h, h2⟩, by simp only; omega, by rw [h3]; rfl⟩
    · exact .inr h1
  · have : k = xs.length := by omega
    subst this
    exact .inr (hend a hI)
end loops
end Go.Vx

namespace Go.Vx
open Go Go.RowKit
section err
variable {α ε : Type}
def Zht (xs : List α) (k : Nat) : Option α := if k = 0 then none else xs[k - 1]?
def ZgA (g : Option α → α → Option ε) : Option α → List α → Option ε
  | _, [] => none
  | p, x :: tl => match g p x with | some e => some e | none => ZgA g (some x) tl
theorem ZlG {xs : List α} {k : Nat} {x : α} (h : xs[k]? = some x) : Zht xs (k + 1) = some x := by simp [Zht, h]
theorem ZmR {xs : List α} {k : Nat} (hk : 0 < k) (h : k ≤ xs.length) : ∃ y, xs[k - 1]? = some y ∧ Zht xs k = some y ∧ idx xs ((k : Int) - 1) = some y := by
  obtain ⟨y, hy⟩ := ZU (xs := xs) (k := k - 1) (by omega)
  refine ⟨y, hy, by simp [Zht, hy]; omega, ?_⟩
  have : ((k : Int) - 1) = ((k - 1 : Nat) : Int) := by omega
  rw [this, ZE hy]
def Jk {ρ : Type} (A : ε → ρ) (Z : ρ) : Option ε → ρ
  | some e => A e
  | none => Z
@[simp] theorem Zq3 {ρ : Type} (A : ε → ρ) (Z : ρ) (e : ε) : Jk A Z (some e) = A e := rfl
@[simp] theorem ZdR {ρ : Type} (A : ε → ρ) (Z : ρ) : Jk A Z none = Z := rfl
theorem ZnZ {ρ : Type} {xs : List α} (g : Option α → α → Option ε) (A : ε → ρ) (Z : ρ) {body : Int → Option (Int ⊕ ρ)}
    (h : ∀ (k : Nat) x, xs[k]? = some x → body k = match g (Zht xs k) x with | some e => some (.inr (A e)) | none => some (.inl ((k : Int) + 1)))
    (hend : body xs.length = some (.inr Z)) : loop (t1 body) 0 = some (Jk A Z (ZgA g none xs)) := by
  refine Zf2 (xs := xs) (fun k => Jk A Z (ZgA g (Zht xs k) (xs.drop k))) (fun k x hx => ?_) ?_
  · rw [h k x hx, ZO hx]
    simp only [ZgA]
    cases hg : g (Zht xs k) x with
    | some e => right; rfl
    | none => left; exact ⟨rfl, by rw [ZlG hx]⟩
  · rw [hend]; simp [ZgA]
theorem Zjh {g : Option α → α → Option ε} : ∀ {p : Option α} {xs : List α}, ZgA g p xs = none → ∀ (k : Nat) x, xs[k]? = some x → g (if k = 0 then p else xs[k - 1]?) x = none
  | p, [], _, k, x, hx => by simp at hx
  | p, y :: tl, h, k, x, hx => by
    simp only [ZgA] at h
    cases hg : g p y with
    | some e => rw [hg] at h; cases h
    | none =>
      rw [hg] at h
      cases k with
      | zero => simp only [List.getElem?_cons_zero, Option.some.injEq] at hx; subst hx; simpa using hg
      | succ k =>
        have := Zjh h k x (by simpa using hx)
        cases k with
        | zero => simpa using this
        | succ k => simpa using this
def ZbS (g : α → Option ε) : List α → Option ε
  | [] => none
  | x :: tl => match g x with | some e => some e | none => ZbS g tl
theorem Zfd {ρ : Type} {xs : List α} (g : α → Option ε) (A : ε → ρ) (Z : ρ) {body : Int → Option (Int ⊕ ρ)}
    (h : ∀ (k : Nat) x, xs[k]? = some x → body k = match g x with | some e => some (.inr (A e)) | none => some (.inl ((k : Int) + 1)))
    (hend : body xs.length = some (.inr Z)) : loop (t1 body) 0 = some (Jk A Z (ZbS g xs)) := by
  refine Zf2 (xs := xs) (fun k => Jk A Z (ZbS g (xs.drop k))) (fun k x hx => ?_) ?_
  · rw [h k x hx, ZO hx]
    simp only [ZbS]
    cases hg : g x with
    | some e => right; rfl
    | none => left; exact ⟨rfl, rfl⟩
  · rw [hend]; simp [ZbS]
end err
theorem ZoH {α β : Type} {xs : List α} {body : List β → Int → Option ((List β × Int) ⊕ (List β))} (g : α → β)
    (hstep : ∀ (k : Nat) x acc, xs[k]? = some x → acc.length = k → body acc k = some (.inl (acc ++ [g x], (k : Int) + 1)))
    (hend : ∀ acc, body acc xs.length = some (.inr acc)) : loop (t2 body) ([], 0) = some (xs.map g) := by
  refine (Za5 (body := t2 body) (fun p => ∃ k : Nat, p.2 = k ∧ k ≤ xs.length ∧ p.1.length = k) (fun p => xs.length - p.2.toNat) (fun p => p.1 ++ (xs.drop p.2.toNat).map g) ?_ ([], 0) ⟨0, rfl, Nat.zero_le _, rfl⟩).trans (by simp)
  rintro ⟨acc, i⟩ ⟨k, hi, hk, ha⟩
  simp only at hi ha
  subst hi
  simp only [J3, Int.toNat_natCast]
  rcases Nat.lt_or_ge k xs.length with h | h
  · obtain ⟨x, hx⟩ := ZU h
    left
    refine ⟨_, hstep k x acc hx ha, ⟨k + 1, by push_cast; rfl, h, by simp [ha]⟩, by simp only; omega, ?_⟩
    rw [ZO hx]
    simp
  · have : k = xs.length := by omega
    subst this
    right
    rw [hend]; simp
theorem Zoc {α : Type} {xs : List α} {body : List α → Int → Option ((List α × Int) ⊕ (List α))} (g : α → α)
    (hstep : ∀ (k : Nat) x acc, xs[k]? = some x → acc.length = xs.length → acc[k]? = some x → ∃ acc', body acc k = some (.inl (acc', (k : Int) + 1)) ∧ acc' = acc.set k (g x))
    (hend : ∀ acc, body acc xs.length = some (.inr acc)) : loop (t2 body) (xs, 0) = some (xs.map g) := by
  refine (Za5 (body := t2 body) (fun p => ∃ k : Nat, p.2 = k ∧ k ≤ xs.length ∧ p.1 = (xs.take k).map g ++ xs.drop k) (fun p => xs.length - p.2.toNat) (fun _ => xs.map g) ?_ (xs, 0) ⟨0, rfl, Nat.zero_le _, by simp⟩)
  rintro ⟨acc, i⟩ ⟨k, hi, hk, ha⟩
  simp only at hi ha
  subst hi
  simp only [J3]
  rcases Nat.lt_or_ge k xs.length with h | h
  · obtain ⟨x, hx⟩ := ZU h
    left
    have hlen : acc.length = xs.length := by rw [ha]; simp; omega
    have hm : (xs.take k).length = k := by simp; omega
    have hax : acc[k]? = some x := by
      rw [ha, List.getElem?_append_right (by simp; omega)]
      simp [hm, hx, show min k xs.length = k by omega]
    obtain ⟨acc', h1, h2⟩ := hstep k x acc hx hlen hax
    refine ⟨_, h1, ⟨k + 1, by push_cast; rfl, h, ?_⟩, by simp only; omega, trivial⟩
    simp only
    rw [h2, ha, ZO hx]
    have e1 : xs.take (k + 1) = xs.take k ++ [x] := by
      rw [List.take_succ, hx]; rfl
    rw [e1, List.map_append, List.set_append, if_neg (by simp; omega)]
    have : k - ((xs.take k).map g).length = 0 := by simp; omega
    rw [this]
    simp
  · have : k = xs.length := by omega
    subst this
    right
    rw [hend, ha]; simp
end Go.Vx

namespace Go.Vx
open Go Go.RowKit
theorem ZX {z : Int} (h1 : -9223372036854775808 ≤ z) (h2 : z ≤ 9223372036854775807) : i64 z = z := ZcP h1 h2
theorem Zny {n : Nat} (h : n ≤ 61) : (1 : Int) ≤ 2 ^ n ∧ (2 : Int) ^ n ≤ 2305843009213693952 := by
  have e : ((2 ^ n : Nat) : Int) = (2 : Int) ^ n := by push_cast; rfl
  have h1 : 1 ≤ 2 ^ n := Nat.one_le_two_pow
  have h2 : 2 ^ n ≤ 2 ^ 61 := Nat.pow_le_pow_right (by decide) h
  rw [show (2 : Nat) ^ 61 = 2305843009213693952 by decide] at h2
  omega
theorem Zbr {v : Int} {n : Nat} (hn : n ≤ 61) : XJ .i64 v ((2 : Int) ^ n - 1) = v % (2 : Int) ^ n := by
  have hb := Zny hn
  have e : ((2 : Int) ^ n - 1) = ((2 ^ n - 1 : Nat) : Int) := by
    have h1 : 1 ≤ 2 ^ n := Nat.one_le_two_pow
    have h2 : ((2 ^ n : Nat) : Int) = (2 : Int) ^ n := by push_cast; rfl
    omega
  have h2 : 2 ^ n ≤ 2 ^ 61 := Nat.pow_le_pow_right (by decide) hn
  have h2p : 0 < 2 ^ n := Nat.two_pow_pos n
  have e2 : (BitVec.ofInt 64 ((2 : Int) ^ n - 1)).toNat = 2 ^ n - 1 := by
    rw [e, BitVec.ofInt_natCast, BitVec.toNat_ofNat]
    exact Nat.mod_eq_of_lt (by have : (2 : Nat) ^ 61 < 2 ^ 64 := by decide
                               omega)
  have e3 : ((BitVec.ofInt 64 v).toNat : Int) = v % (2 : Int) ^ 64 := by
    rw [BitVec.toNat_ofInt]
    have : (0 : Int) ≤ v % ((2 ^ 64 : Nat) : Int) := Int.emod_nonneg _ (by decide)
    rw [Int.toNat_of_nonneg this]; rfl
  have e4 : ((BitVec.ofInt 64 v &&& BitVec.ofInt 64 ((2 : Int) ^ n - 1)).toNat : Int) = v % (2 : Int) ^ n := by
    rw [BitVec.toNat_and, e2, Nat.and_two_pow_sub_one_eq_mod]
    push_cast
    rw [e3]
    have : ((2 : Int) ^ n) ∣ (2 : Int) ^ 64 := ⟨(2 : Int) ^ (64 - n), by rw [← Int.pow_add]; congr 1; omega⟩
    exact Int.emod_emod_of_dvd v this
  have hp : (0 : Int) < (2 : Int) ^ n := by omega
  have b1 := Int.emod_nonneg v (show (2 : Int) ^ n ≠ 0 by omega)
  have b2 := Int.emod_lt_of_pos v hp
  unfold XJ
  have : IntKind.i64.bits = 64 := rfl
  rw [this, e4]
  exact ZX (by omega) (by omega)
theorem Zot {a b n : Nat} (ha : a < 2 ^ n) (hb : a + 2 ^ n * b < 2 ^ 62) : bor .i64 (a : Int) ((2 ^ n * b : Nat) : Int) = ((a + 2 ^ n * b : Nat) : Int) := by
  unfold bor
  have e0 : IntKind.i64.bits = 64 := rfl
  have h64 : (2 : Nat) ^ 62 < 2 ^ 64 := by decide
  have e1 : (BitVec.ofInt 64 (a : Int)).toNat = a := by
    rw [BitVec.ofInt_natCast, BitVec.toNat_ofNat]; exact Nat.mod_eq_of_lt (by omega)
  have e2 : (BitVec.ofInt 64 ((2 ^ n * b : Nat) : Int)).toNat = 2 ^ n * b := by
    rw [BitVec.ofInt_natCast, BitVec.toNat_ofNat]; exact Nat.mod_eq_of_lt (by omega)
  rw [e0, BitVec.toNat_or, e1, e2, Nat.or_comm, ← Nat.two_pow_add_eq_or_of_lt ha, Nat.add_comm]
  have h62 : (2 : Nat) ^ 62 = 4611686018427387904 := by decide
  exact ZX (by omega) (by omega)
end Go.Vx

namespace Go.Vx
open Go Go.RowKit
theorem Zme {a : Nat} (h : a < 9223372036854775808) : (BitVec.ofInt 64 (a : Int)).toNat = a := by
  rw [BitVec.ofInt_natCast, BitVec.toNat_ofNat]; exact Nat.mod_eq_of_lt (by omega)
theorem ZqH {a b : Nat} (ha : a < 9223372036854775808) (hb : b < 9223372036854775808) : XJ .i64 (a : Int) (b : Int) = ((a &&& b : Nat) : Int) := by
  unfold XJ
  have e0 : IntKind.i64.bits = 64 := rfl
  rw [e0, BitVec.toNat_and, Zme ha, Zme hb]
  have := Nat.and_le_left (n := a) (m := b)
  exact ZX (by omega) (by omega)
theorem Zoq {a b : Nat} (ha : a < 9223372036854775808) (hb : b < 9223372036854775808) : ZhK .i64 (a : Int) (b : Int) = ((a ^^^ b : Nat) : Int) := by
  unfold ZhK
  have e0 : IntKind.i64.bits = 64 := rfl
  rw [e0, BitVec.toNat_xor, Zme ha, Zme hb]
  have : a ^^^ b < 2 ^ 63 := Nat.xor_lt_two_pow (by omega) (by omega)
  exact ZX (by omega) (by omega)
def Zkh : BitVec 22 := 2097167#22
def zS (v : BitVec 22) : BitVec 22 := (v <<< 1) ^^^ (if v.msb then Zkh else 0#22)
def pS (b : Nat → Bool) : Nat → BitVec 22
  | 0 => 0#22
  | k + 1 => zS (pS b k) ^^^ (if b k then Zkh else 0#22)
theorem ZrZ (v : BitVec 22) : decide (XJ .i64 (v.toNat : Int) 2097152 = 0) = !v.msb := by
  have := v.isLt
  rw [show (2097152 : Int) = ((2097152 : Nat) : Int) from rfl, ZqH (by omega) (by omega)]
  rw [show (2097152 : Nat) = 2 ^ 21 from rfl]
  have e : v.msb = v.toNat.testBit 21 := by rw [BitVec.msb_eq_getLsbD_last]; rfl
  rw [e]
  have e2 : (v.toNat &&& 2 ^ 21).testBit 21 = v.toNat.testBit 21 := by rw [Nat.testBit_and, Nat.testBit_two_pow_self, Bool.and_true]
  cases hb : v.toNat.testBit 21
  · have : v.toNat &&& 2 ^ 21 = 0 := by
      refine Nat.eq_of_testBit_eq fun i => ?_
      rw [Nat.testBit_and, Nat.testBit_two_pow]
      by_cases h : 21 = i
      · subst h; rw [hb]; simp
      · simp [h]
    rw [this]; rfl
  · have : v.toNat &&& 2 ^ 21 ≠ 0 := fun h => by rw [h, Nat.zero_testBit, hb] at e2; cases e2
    have : ((v.toNat &&& 2 ^ 21 : Nat) : Int) ≠ 0 := by omega
    simp only [this, decide_false, Bool.not_true]
theorem Zrt (v : BitVec 22) : shl .i64 (v.toNat : Int) 1 = some ((v.toNat : Int) * 2) := by
  have := v.isLt
  unfold shl
  rw [if_neg (by decide)]
  congr 1
  have e : (2 : Int) ^ min (Int.toNat 1) IntKind.i64.bits = 2 := rfl
  rw [e]
  exact ZX (by omega) (by omega)
theorem ZrB (v : BitVec 22) : XJ .i64 ((v.toNat : Int) * 2) 4194303 = ((v <<< 1).toNat : Int) := by
  have e : (4194303 : Int) = (2 : Int) ^ 22 - 1 := by decide
  rw [e, Zbr (n := 22) (by decide), BitVec.toNat_shiftLeft, Nat.shiftLeft_eq]
  rw [Int.natCast_emod, Int.natCast_mul]
  rfl
theorem Zsd (v : BitVec 22) : ZhK .i64 (v.toNat : Int) 2097167 = ((v ^^^ Zkh).toNat : Int) := by
  have := v.isLt
  rw [show (2097167 : Int) = ((2097167 : Nat) : Int) from rfl, Zoq (by omega) (by omega), BitVec.toNat_xor]
  rfl
theorem Zpa (v : BitVec 22) (b : Bool) : zS v ^^^ (if b then Zkh else 0#22) = if (!(v.msb == b)) = true then (v <<< 1) ^^^ Zkh else v <<< 1 := by
  unfold zS
  cases v.msb <;> cases b
  · simp
  · simp
  · simp
  · simp [BitVec.xor_assoc]
end Go.Vx

namespace Go.Vx
open Go Go.RowKit
def ZeT (x : api_Part) : Prop := (wfI .i64) x.Frame ∧ (wfI .i64) x.Word ∧ (wfI .i64) x.Low ∧ (wfI .i64) x.Bits ∧ True
def ZbF (x : api_Param) : Prop := wfS x.Name ∧ (wfI .i64) x.Kind ∧ (wfL ZeT) x.Parts ∧ (wfI .i64) x.First ∧ (wfI .i64) x.Every ∧ (wfI .i64) x.Times ∧ (wfI .i64) x.Step ∧ (wfL wfS) x.Names ∧ True
def ZcU (x : api_Map) : Prop := (wfI .i64) x.Version ∧ (wfL ZbF) x.Params ∧ True
def Zda (x : api_Line) : Prop := (wfI .i64) x.From ∧ (wfI .i64) x.To ∧ (wfI .i64) x.A_ ∧ (wfI .i64) x.B ∧ True
def JN (x : api_Calibration) : Prop := (wfI .i64) x.Den ∧ (wfL Zda) x.Lines ∧ (wfI .i64) x.Low ∧ (wfI .i64) x.High ∧ True
def Zbl (x : api_Rest) : Prop := (wfI .i64) x.Number ∧ (wfV (wfI .u16)) x.Frame ∧ (wfV (wfI .i64)) x.States ∧ wfT x.Sound ∧ (wfI .i64) x.Copies ∧ wfT x.Conflict ∧ True
end Go.Vx

namespace Go.Vx
open Go Go.RowKit
def Zi7 {σ ρ : Type} (b : σ → Option (σ ⊕ ρ)) (s : σ) : Option ρ :=
  Nat.rec (motive := fun _ => σ → Option ρ) (fun _ => none) (fun _ ih s => match b s with | none => none | some (.inl s') => ih s' | some (.inr r) => some r) 1000000 s
def Le {α : Type} (a b : Option α) : Prop := ∀ r, a = some r → b = some r
theorem Le.refl {α : Type} (a : Option α) : Le a a := fun _ h => h
section
variable {α β γ δ ε ζ η θ ι κ σ ρ : Type}
theorem Le.bind {a b : Option α} {f g : α → Option β} (h : Le a b) (hf : ∀ x, Le (f x) (g x)) : Le (a.bind f) (b.bind g) := by
  intro r hr
  cases ha : a with
  | none => rw [ha] at hr; cases hr
  | some x => rw [ha] at hr; rw [h x ha]; exact hf x r hr
theorem Le.ite {c : Prop} [Decidable c] {a b a' b' : Option α} (h1 : Le a a') (h2 : Le b b') : Le (if c then a else b) (if c then a' else b') := by
  split
  · exact h1
  · exact h2
theorem Le.gd {g : Bool} {d : α} {a b : Option α} (h : Le a b) : Le (gd g d a) (gd g d b) := by
  cases g
  · exact fun r hr => hr
  · exact h
theorem Le.loop {b b' : σ → Option (σ ⊕ ρ)} {s : σ} (h : ∀ s, Le (b s) (b' s)) : Le (Zi7 b s) (loop b' s) := by
  have key : ∀ n s r, Nat.rec (motive := fun _ => σ → Option ρ) (fun _ => none) (fun _ ih s => match b s with | none => none | some (.inl s') => ih s' | some (.inr r) => some r) n s = some r → Zcg b' n s = some r := by
    intro n
    induction n with
    | zero => intro s r hr; cases hr
    | succ n ih =>
      intro s r hr
      simp only at hr
      cases hb : b s with
      | none => rw [hb] at hr; cases hr
      | some o =>
        rw [hb] at hr
        simp only [Zcg, h s o hb, Option.bind_some]
        cases o with
        | inl s' => exact ih s' r hr
        | inr r' => exact hr
  intro r hr
  exact ZhS (key 1000000 s r hr)
theorem Le.t0 {f g : Option κ} {p : Unit} (h : Le f g) : Le (t0 f p) (t0 g p) := h
theorem Le.t1 {f g : α → Option κ} {p : α} (h : ∀ a, Le (f a) (g a)) : Le (t1 f p) (t1 g p) := h _
theorem Le.t2 {f g : α → β → Option κ} {p : α × β} (h : ∀ a b, Le (f a b) (g a b)) : Le (t2 f p) (t2 g p) := h _ _
theorem Le.t3 {f g : α → β → γ → Option κ} {p : α × β × γ} (h : ∀ a b c, Le (f a b c) (g a b c)) : Le (t3 f p) (t3 g p) := h _ _ _
theorem Le.t4 {f g : α → β → γ → δ → Option κ} {p : α × β × γ × δ} (h : ∀ a b c d, Le (f a b c d) (g a b c d)) : Le (t4 f p) (t4 g p) := h _ _ _ _
theorem Le.t5 {f g : α → β → γ → δ → ε → Option κ} {p : α × β × γ × δ × ε} (h : ∀ a b c d e, Le (f a b c d e) (g a b c d e)) : Le (t5 f p) (t5 g p) := h _ _ _ _ _
theorem Le.t6 {f g : α → β → γ → δ → ε → ζ → Option κ} {p : α × β × γ × δ × ε × ζ} (h : ∀ a b c d e x, Le (f a b c d e x) (g a b c d e x)) : Le (t6 f p) (t6 g p) := h _ _ _ _ _ _
theorem Le.t7 {f g : α → β → γ → δ → ε → ζ → η → Option κ} {p : α × β × γ × δ × ε × ζ × η} (h : ∀ a b c d e x y, Le (f a b c d e x y) (g a b c d e x y)) : Le (t7 f p) (t7 g p) := h _ _ _ _ _ _ _
theorem Le.t8 {f g : α → β → γ → δ → ε → ζ → η → θ → Option κ} {p : α × β × γ × δ × ε × ζ × η × θ} (h : ∀ a b c d e x y z, Le (f a b c d e x y z) (g a b c d e x y z)) : Le (t8 f p) (t8 g p) := h _ _ _ _ _ _ _ _
theorem Le.elim {f f' : α → Option κ} {g g' : β → Option κ} {s : α ⊕ β} (h1 : ∀ a, Le (f a) (f' a)) (h2 : ∀ b, Le (g b) (g' b)) : Le (Sum.elim f g s) (Sum.elim f' g' s) := by
  cases s with
  | inl a => exact h1 a
  | inr b => exact h2 b
end
end Go.Vx

namespace Go.Vx
open Go Go.RowKit
end Go.Vx

namespace Go.Vx
open Go Go.RowKit
set_option linter.unusedVariables false

noncomputable def Zbf (x : Int) : Option Int :=
  (shr .u16 x 8).bind fun q =>
  (Zhx [0, 1, 1, 2, 1, 2, 2, 3, 1, 2, 2, 3, 2, 3, 3, 4, 1, 2, 2, 3, 2, 3, 3, 4, 2, 3, 3, 4, 3, 4, 4, 5, 1, 2, 2, 3, 2, 3, 3, 4, 2, 3, 3, 4, 3, 4, 4, 5, 2, 3, 3, 4, 3, 4, 4, 5, 3, 4, 4, 5, 4, 5, 5, 6, 1, 2, 2, 3, 2, 3, 3, 4, 2, 3, 3, 4, 3, 4, 4, 5, 2, 3, 3, 4, 3, 4, 4, 5, 3, 4, 4, 5, 4, 5, 5, 6, 2, 3, 3, 4, 3, 4, 4, 5, 3, 4, 4, 5, 4, 5, 5, 6, 3, 4, 4, 5, 4, 5, 5, 6, 4, 5, 5, 6, 5, 6, 6, 7, 1, 2, 2, 3, 2, 3, 3, 4, 2, 3, 3, 4, 3, 4, 4, 5, 2, 3, 3, 4, 3, 4, 4, 5, 3, 4, 4, 5, 4, 5, 5, 6, 2, 3, 3, 4, 3, 4, 4, 5, 3, 4, 4, 5, 4, 5, 5, 6, 3, 4, 4, 5, 4, 5, 5, 6, 4, 5, 5, 6, 5, 6, 6, 7, 2, 3, 3, 4, 3, 4, 4, 5, 3, 4, 4, 5, 4, 5, 5, 6, 3, 4, 4, 5, 4, 5, 5, 6, 4, 5, 5, 6, 5, 6, 6, 7, 3, 4, 4, 5, 4, 5, 5, 6, 4, 5, 5, 6, 5, 6, 6, 7, 4, 5, 5, 6, 5, 6, 6, 7, 5, 6, 6, 7, 6, 7, 7, 8] q).bind fun b =>
  (Zhx [0, 1, 1, 2, 1, 2, 2, 3, 1, 2, 2, 3, 2, 3, 3, 4, 1, 2, 2, 3, 2, 3, 3, 4, 2, 3, 3, 4, 3, 4, 4, 5, 1, 2, 2, 3, 2, 3, 3, 4, 2, 3, 3, 4, 3, 4, 4, 5, 2, 3, 3, 4, 3, 4, 4, 5, 3, 4, 4, 5, 4, 5, 5, 6, 1, 2, 2, 3, 2, 3, 3, 4, 2, 3, 3, 4, 3, 4, 4, 5, 2, 3, 3, 4, 3, 4, 4, 5, 3, 4, 4, 5, 4, 5, 5, 6, 2, 3, 3, 4, 3, 4, 4, 5, 3, 4, 4, 5, 4, 5, 5, 6, 3, 4, 4, 5, 4, 5, 5, 6, 4, 5, 5, 6, 5, 6, 6, 7, 1, 2, 2, 3, 2, 3, 3, 4, 2, 3, 3, 4, 3, 4, 4, 5, 2, 3, 3, 4, 3, 4, 4, 5, 3, 4, 4, 5, 4, 5, 5, 6, 2, 3, 3, 4, 3, 4, 4, 5, 3, 4, 4, 5, 4, 5, 5, 6, 3, 4, 4, 5, 4, 5, 5, 6, 4, 5, 5, 6, 5, 6, 6, 7, 2, 3, 3, 4, 3, 4, 4, 5, 3, 4, 4, 5, 4, 5, 5, 6, 3, 4, 4, 5, 4, 5, 5, 6, 4, 5, 5, 6, 5, 6, 6, 7, 3, 4, 4, 5, 4, 5, 5, 6, 4, 5, 5, 6, 5, 6, 6, 7, 4, 5, 5, 6, 5, 6, 6, 7, 5, 6, 6, 7, 6, 7, 7, 8] (XJ .u16 x 255)).bind fun b2 =>
  some (i64 (u8 (b + b2)))
theorem Zfs (x : Int) : Le (Zbf x) (Jx x) := by
  unfold Zbf Jx
  with_reducible repeat' (first | exact Le.refl _ | apply Le.bind | intro _)

noncomputable def ZeV (w : Int) : Option Bool :=
  (gd ((decide (w ≤ 4095)) == true) 0 (Zbf w)).bind fun y =>
  (gd ((decide (w ≤ 4095)) == true) 0 (rem y 2)).bind fun q =>
  some ((decide (w ≤ 4095)) && (decide (q = 1)))
theorem ZjN (w : Int) : Le (ZeV w) (J4 w) := by
  unfold ZeV J4
  with_reducible repeat' (first | exact Le.refl _ | apply Le.bind | apply Le.gd | apply Zfs | intro _)

noncomputable def Je (data : Int) : Option Int :=
  (ZeV (u16 data)).bind fun y =>
  if (!y) = true then
  some (bor .u16 (u16 data) 2048)
  else
  some (u16 data)
theorem Zdo (data : Int) : Le (Je data) (QQ data) := by
  unfold Je QQ
  with_reducible repeat' (first | exact Le.refl _ | apply Le.bind | apply Le.ite | apply ZjN | intro _)

noncomputable def ZcX (data : List Int) (f2 : Vector Int 64) (i : Int) : Option (((Vector Int 64) × Int) ⊕ ((Vector Int 64) × Int) ⊕ ((Vector Int 64))) :=
  if (decide (i < (data.length : Int))) = true then
  (idx data i).bind fun x3 =>
  if ((decide (x3 < 0)) || (decide (2047 < x3))) = true then
  some (.inr (.inl ((#v[0, 0, 0, 0, 0, 0, 0, 0, 0, 0, 0, 0, 0, 0, 0, 0, 0, 0, 0, 0, 0, 0, 0, 0, 0, 0, 0, 0, 0, 0, 0, 0, 0, 0, 0, 0, 0, 0, 0, 0, 0, 0, 0, 0, 0, 0, 0, 0, 0, 0, 0, 0, 0, 0, 0, 0, 0, 0, 0, 0, 0, 0, 0, 0] : Vector Int 64), 9)))
  else
  (Je x3).bind fun y3 =>
  (ZI f2 (i64 (3 + i))).bind fun x4 =>
  some (.inl ((Qd f2 (i64 (3 + i)) y3), (i64 (i + 1))))
  else
  some (.inr (.inr f2))
theorem Zhy (data : List Int) (f2 : Vector Int 64) (i : Int) : Le (ZcX data f2 i) (Jf data f2 i) := by
  unfold ZcX Jf
  with_reducible repeat' (first | exact Le.refl _ | apply Le.bind | apply Le.ite | apply Zdo | intro _)

noncomputable def Zbx (w : Int) : Option Int :=
  some (i64 (XJ .u16 w 2047))
theorem ZfA (w : Int) : Le (Zbx w) (Xv w) := by
  unfold Zbx Xv
  with_reducible repeat' (first | exact Le.refl _ | apply Le.bind | intro _)

noncomputable def ZbW (f : Vector Int 64) : Option Int :=
  (ZI f 1).bind fun x =>
  (Zbx x).bind fun y =>
  (ZI f 2).bind fun x2 =>
  (Zbx x2).bind fun y2 =>
  (shl .i64 y2 11).bind fun q =>
  some (bor .i64 y q)
theorem ZgB (f : Vector Int 64) : Le (ZbW f) (QP f) := by
  unfold ZbW QP
  with_reducible repeat' (first | exact Le.refl _ | apply Le.bind | apply ZfA | intro _)

noncomputable def ZbY (f : Vector Int 64) (n2 : Int) (i : Int) : Option ((Int × Int) ⊕ (Int)) :=
  if (decide (i < 60)) = true then
  (ZI f (i64 (i + 1))).bind fun x =>
  (Zbx x).bind fun y =>
  some (.inl ((ZhK .i64 n2 y), (i64 (i + 1))))
  else
  some (.inr n2)
theorem Zgw (f : Vector Int 64) (n2 : Int) (i : Int) : Le (ZbY f n2 i) (XP f n2 i) := by
  unfold ZbY XP
  with_reducible repeat' (first | exact Le.refl _ | apply Le.bind | apply Le.ite | apply ZfA | intro _)

noncomputable def Zdj (f : Vector Int 64) : Option Int :=
  ((Zi7 (t2 (ZbY f)) (0, 0)) : Option ((Int))).bind (t1 fun (n : Int) =>
  some n)
theorem Zin (f : Vector Int 64) : Le (Zdj f) (JB f) := by
  unfold Zdj JB
  with_reducible repeat' (first | exact Le.refl _ | apply Le.bind | apply Le.loop | apply Le.t1 | apply Le.t2 | apply Zgw | intro _)

noncomputable def Za6 (f : Vector Int 64) (i : Int) (n4 : Int) (k : Int) : Option ((Int × Int) ⊕ (Int)) :=
  if (decide (0 ≤ k)) = true then
  (shl .i64 n4 1).bind fun q =>
  (ZI f i).bind fun x =>
  (shr .u16 x k).bind fun q2 =>
  if (!((!decide ((XJ .i64 n4 2097152) = 0)) == (decide ((XJ .u16 q2 1) = 1)))) = true then
  some (.inl ((ZhK .i64 (XJ .i64 q 4194303) 2097167), (i64 (k - 1))))
  else
  some (.inl ((XJ .i64 q 4194303), (i64 (k - 1))))
  else
  some (.inr n4)
theorem Zfo (f : Vector Int 64) (i : Int) (n4 : Int) (k : Int) : Le (Za6 f i n4 k) (QJ f i n4 k) := by
  unfold Za6 QJ
  with_reducible repeat' (first | exact Le.refl _ | apply Le.bind | apply Le.ite | intro _)

noncomputable def Za9 (f : Vector Int 64) (n2 : Int) (i : Int) : Option ((Int × Int) ⊕ (Int)) :=
  if (decide (i < 62)) = true then
  ((Zi7 (t2 (Za6 f i)) (n2, 11)) : Option ((Int))).bind (t1 fun (n3 : Int) =>
  some (.inl (n3, (i64 (i + 1)))))
  else
  some (.inr n2)
theorem Zfq (f : Vector Int 64) (n2 : Int) (i : Int) : Le (Za9 f n2 i) (Q2 f n2 i) := by
  unfold Za9 Q2
  with_reducible repeat' (first | exact Le.refl _ | apply Le.bind | apply Le.ite | apply Le.loop | apply Le.t1 | apply Le.t2 | apply Zfo | intro _)

noncomputable def Zcl (f : Vector Int 64) : Option Int :=
  ((Zi7 (t2 (Za9 f)) (0, 0)) : Option ((Int))).bind (t1 fun (n : Int) =>
  some n)
theorem Zhd (f : Vector Int 64) : Le (Zcl f) (XE f) := by
  unfold Zcl XE
  with_reducible repeat' (first | exact Le.refl _ | apply Le.bind | apply Le.loop | apply Le.t1 | apply Le.t2 | apply Zfq | intro _)

noncomputable def ZcN (f : Vector Int 64) : Option (Vector Int 64) :=
  (ZbW f).bind fun y =>
  (rem y 4).bind fun q =>
  (ZI gv_frame_syncs q).bind fun x =>
  (ZI f 0).bind fun x2 =>
  (Zdj (Qd f 0 x)).bind fun y2 =>
  (Je y2).bind fun y3 =>
  (ZI (Qd f 0 x) 61).bind fun x3 =>
  (Zcl (Qd (Qd f 0 x) 61 y3)).bind fun y4 =>
  (shr .i64 y4 11).bind fun q2 =>
  (Je q2).bind fun y5 =>
  (Je (XJ .i64 y4 2047)).bind fun y6 =>
  (ZI (Qd (Qd f 0 x) 61 y3) 62).bind fun x4 =>
  (ZI (Qd (Qd (Qd f 0 x) 61 y3) 62 y5) 63).bind fun x5 =>
  some (Qd (Qd (Qd (Qd f 0 x) 61 y3) 62 y5) 63 y6)
theorem ZhH (f : Vector Int 64) : Le (ZcN f) (JF f) := by
  unfold ZcN JF
  with_reducible repeat' (first | exact Le.refl _ | apply Le.bind | apply ZgB | apply Zin | apply Zdo | apply Zhd | intro _)

noncomputable def ZeO (number : Int) (data : List Int) : Option ((Vector Int 64) × Int) :=
  if ((decide (number < 0)) || (decide (4194304 ≤ number))) = true then
  some ((#v[0, 0, 0, 0, 0, 0, 0, 0, 0, 0, 0, 0, 0, 0, 0, 0, 0, 0, 0, 0, 0, 0, 0, 0, 0, 0, 0, 0, 0, 0, 0, 0, 0, 0, 0, 0, 0, 0, 0, 0, 0, 0, 0, 0, 0, 0, 0, 0, 0, 0, 0, 0, 0, 0, 0, 0, 0, 0, 0, 0, 0, 0, 0, 0] : Vector Int 64), 9)
  else
  if (!decide ((data.length : Int) = 58)) = true then
  some ((#v[0, 0, 0, 0, 0, 0, 0, 0, 0, 0, 0, 0, 0, 0, 0, 0, 0, 0, 0, 0, 0, 0, 0, 0, 0, 0, 0, 0, 0, 0, 0, 0, 0, 0, 0, 0, 0, 0, 0, 0, 0, 0, 0, 0, 0, 0, 0, 0, 0, 0, 0, 0, 0, 0, 0, 0, 0, 0, 0, 0, 0, 0, 0, 0] : Vector Int 64), 3)
  else
  (Je (XJ .i64 number 2047)).bind fun y =>
  (shr .i64 number 11).bind fun q =>
  (Je q).bind fun y2 =>
  (ZI (Vector.replicate 64 (0 : Int)) 1).bind fun x =>
  (ZI (Qd (Vector.replicate 64 0) 1 y) 2).bind fun x2 =>
  ((Zi7 (t2 (ZcX data)) ((Qd (Qd (Vector.replicate 64 0) 1 y) 2 y2), 0)) : Option (((Vector Int 64) × Int) ⊕ ((Vector Int 64)))).bind (Sum.elim (fun q' => some q') (t1 fun (f : Vector Int 64) =>
  (ZcN f).bind fun y4 =>
  some (y4, 0)))
theorem ZjW (number : Int) (data : List Int) : Le (ZeO number data) (J7 number data) := by
  unfold ZeO J7
  with_reducible repeat' (first | exact Le.refl _ | apply Le.bind | apply Le.ite | apply Le.loop | apply Le.t1 | apply Le.t2 | apply Le.elim | apply Zdo | apply Zhy | apply ZhH | intro _)

noncomputable def Zhp : Option Bool :=
  (mks 58 0).bind fun l =>
  (idx l 0).bind fun x =>
  (ZeO 2050 (l.set (Int.toNat 0) 5)).bind fun y =>
  (gd ((decide (y.2 = 0)) == true) 0 (ZI y.1 0)).bind fun x2 =>
  (gd (((decide (y.2 = 0)) && (decide (x2 = 2631))) == true) 0 (ZI y.1 1)).bind fun x3 =>
  (gd ((((decide (y.2 = 0)) && (decide (x2 = 2631))) && (decide (x3 = 2))) == true) 0 (ZI y.1 2)).bind fun x4 =>
  (gd (((((decide (y.2 = 0)) && (decide (x2 = 2631))) && (decide (x3 = 2))) && (decide (x4 = 1))) == true) 0 (ZI y.1 3)).bind fun x5 =>
  some (((((decide (y.2 = 0)) && (decide (x2 = 2631))) && (decide (x3 = 2))) && (decide (x4 = 1))) && (decide (x5 = 2053)))
theorem Zju : Le (Zhp ) (ZcF ) := by
  unfold Zhp ZcF
  with_reducible repeat' (first | exact Le.refl _ | apply Le.bind | apply Le.gd | apply ZjW | intro _)

noncomputable def Zdg (n2 : Int) (ones2 : Int) : Option ((Int × Int) ⊕ (Int)) :=
  if (decide (0 < n2)) = true then
  (rem n2 2).bind fun q =>
  (quo .i64 n2 2).bind fun q2 =>
  some (.inl (q2, (i64 (ones2 + q))))
  else
  some (.inr ones2)
theorem Zif (n2 : Int) (ones2 : Int) : Le (Zdg n2 ones2) (Ze3 n2 ones2) := by
  unfold Zdg Ze3
  with_reducible repeat' (first | exact Le.refl _ | apply Le.bind | apply Le.ite | intro _)

noncomputable def ZcV (n : Int) : Option Bool :=
  ((Zi7 (t2 (Zdg)) (n, 0)) : Option ((Int))).bind (t1 fun (ones : Int) =>
  (rem ones 2).bind fun q3 =>
  some (decide (q3 = 1)))
theorem Zk0 (n : Int) : Le (ZcV n) (Zex n) := by
  unfold ZcV Zex
  with_reducible repeat' (first | exact Le.refl _ | apply Le.bind | apply Le.loop | apply Le.t1 | apply Le.t2 | apply Zif | intro _)
end Go.Vx

namespace Go.Vx
open Go Go.RowKit
end Go.Vx

namespace Go.Vx
open Go Go.RowKit
theorem ZpJ {n : Int} (h : wfI .u16 n) : 0 ≤ n ∧ n ≤ 65535 := by
  have h' : (decide (IntKind.u16.min ≤ n) && decide (n ≤ IntKind.u16.max)) = true := h
  have e1 : IntKind.u16.min = 0 := by decide
  have e2 : IntKind.u16.max = 65535 := by decide
  rw [e1, e2] at h'
  simpa using h'
theorem Xu {z : Int} (h1 : -9223372036854775808 ≤ z) (h2 : z ≤ 9223372036854775807) : i64 z = z := ZcP h1 h2
end Go.Vx

namespace Go.Vx
open Go Go.RowKit
def w3 (a b c : Int) : Int := 256 * a + 16 * b + c
def hL (l : List Int) : Prop := ∀ x ∈ l, 0 ≤ x ∧ x ≤ 15
theorem Zgd {l : List Int} {k : Nat} {x : Int} (h : l[k]? = some x) : l.getD k 0 = x := by rw [List.getD_eq_getElem?_getD, h]; rfl
end Go.Vx

namespace Go.Vx
open Go Go.RowKit
theorem Zcy {σ ρ : Type} {body : σ → Int → Option ((σ × Int) ⊕ ρ)} (S : Nat → σ) (R : ρ) {a b : Nat} (hab : a ≤ b)
    (hstep : ∀ k : Nat, a ≤ k → k < b → body (S k) (k : Int) = some (.inl (S (k + 1), (k : Int) + 1))) (hend : body (S b) (b : Int) = some (.inr R)) :
    loop (t2 body) (S a, (a : Int)) = some R := by
  refine Za5 (body := t2 body) (fun s => ∃ k : Nat, a ≤ k ∧ k ≤ b ∧ s = (S k, (k : Int))) (fun s => b - s.2.toNat) (fun _ => R) ?_ _ ⟨a, Nat.le_refl _, hab, rfl⟩
  rintro _ ⟨k, h1, h2, rfl⟩
  rcases Nat.lt_or_ge k b with h | h
  · exact .inl ⟨_, hstep k h1 h, ⟨k + 1, by omega, h, by push_cast; rfl⟩, by simp only; omega, rfl⟩
  · obtain rfl : k = b := by omega
    exact .inr hend
theorem ZpR {σ ρ : Type} {body : σ → Int → Option ((σ × Int) ⊕ ρ)} (S : Nat → σ) (R : ρ) {b : Nat}
    (hstep : ∀ k : Nat, k < b → body (S (b - 1 - k)) (k : Int) = some (.inl (S (b - k), (k : Int) - 1))) (hend : body (S b) (-1) = some (.inr R)) :
    loop (t2 body) (S 0, (b : Int) - 1) = some R := by
  refine Za5 (body := t2 body) (fun s => ∃ k : Nat, k ≤ b ∧ s = (S (b - k), (k : Int) - 1)) (fun s => (s.2 + 1).toNat) (fun _ => R) ?_ _ ⟨b, Nat.le_refl _, by rw [Nat.sub_self]⟩
  rintro _ ⟨k, h2, rfl⟩
  rcases Nat.eq_zero_or_pos k with rfl | h
  · exact .inr hend
  · obtain ⟨j, rfl⟩ : ∃ j, k = j + 1 := ⟨k - 1, by omega⟩
    refine .inl ⟨_, ?_, ⟨j, by omega, rfl⟩, ?_, rfl⟩
    · have := hstep j h2
      rw [show ((j + 1 : Nat) : Int) - 1 = (j : Int) by omega, show b - (j + 1) = b - 1 - j by omega]
      exact this
    · simp only; omega
def wd (f : Vector Int 64) (i : Nat) : Int := f.toList.getD i 0
def fU (f : Vector Int 64) : Prop := ∀ i, 0 ≤ wd f i ∧ wd f i ≤ 65535
theorem Zp9 {f : Vector Int 64} (h : wfV (wfI .u16) f) : fU f := by
  intro i
  unfold wd
  rcases Nat.lt_or_ge i f.toList.length with hi | hi
  · obtain ⟨x, hx⟩ := ZU hi
    rw [List.getD_eq_getElem?_getD, hx]
    exact ZpJ (h x (List.mem_of_getElem? hx))
  · rw [List.getD_eq_getElem?_getD, List.getElem?_eq_none hi]
    exact ⟨by decide, by decide⟩
theorem Q1 (f : Vector Int 64) {i : Nat} (hi : i < 64) : ZI f (i : Int) = some (wd f i) := by
  unfold ZI wd
  rw [if_pos (by omega), Int.toNat_natCast]
  obtain ⟨x, hx⟩ := ZU (xs := f.toList) (k := i) (by simp; omega)
  rw [List.getD_eq_getElem?_getD, hx]; rfl
theorem ZfW {x : Int} (h : 0 ≤ x ∧ x ≤ 65535) : Xv x = some (x % 2048) := by
  obtain ⟨n, rfl⟩ : ∃ n : Nat, x = n := ⟨x.toNat, by omega⟩
  have e0 : IntKind.u16.bits = 16 := rfl
  have e1 : (BitVec.ofInt 16 (n : Int)).toNat = n := by
    rw [BitVec.ofInt_natCast, BitVec.toNat_ofNat]; exact Nat.mod_eq_of_lt (by omega)
  have e2 : (BitVec.ofInt 16 2047).toNat = 2 ^ 11 - 1 := rfl
  have e3 : XJ .u16 (n : Int) 2047 = ((n % 2048 : Nat) : Int) := by
    unfold XJ
    rw [e0, BitVec.toNat_and, e1, e2, Nat.and_two_pow_sub_one_eq_mod]
    have : n % 2 ^ 11 < 2048 := Nat.mod_lt _ (by decide)
    simp only [IntKind.wrap, IntKind.signed, IntKind.bits]
    have e : (2 : Int) ^ 16 = 65536 := by decide
    simp [e]
    omega
  unfold Xv
  rw [e3, Xu (by omega) (by omega)]; rfl
theorem Ziv {x : Int} (h : 0 ≤ x) (n : Int) (hn : 0 < n) : rem x n = some (x % n) := by
  unfold rem
  rw [if_neg (by omega), Int.tmod_eq_emod_of_nonneg h]
def ZaA (f : Vector Int 64) : Int := wd f 1 % 2048 + wd f 2 % 2048 * 2048
theorem Zmm (f : Vector Int 64) : 0 ≤ ZaA f ∧ ZaA f < 4194304 := by unfold ZaA; omega
theorem Zqa {a b : Int} (ha : 0 ≤ a ∧ a < 2048) (hb : 0 ≤ b ∧ b < 2048) : (shl .i64 b 11).bind (fun q => some (bor .i64 a q)) = some (a + b * 2048) ∧ (shl .i64 a 11).bind (fun q => some (bor .i64 q b)) = some (a * 2048 + b) := by
  have e : ∀ z : Int, 0 ≤ z ∧ z < 2048 → shl .i64 z 11 = some (z * 2048) := fun z hz => by
    unfold shl
    rw [if_neg (by decide)]
    have e : (2 : Int) ^ min (Int.toNat 11) IntKind.i64.bits = 2048 := rfl
    rw [e, w64 (by omega) (by omega)]
  have e2 : ∀ x y : Int, 0 ≤ x ∧ x < 2048 → 0 ≤ y ∧ y < 2048 → bor .i64 x (y * 2048) = x + y * 2048 := fun x y hx hy => by
    obtain ⟨m, rfl⟩ : ∃ m : Nat, x = m := ⟨x.toNat, by omega⟩
    obtain ⟨n, rfl⟩ : ∃ n : Nat, y = n := ⟨y.toNat, by omega⟩
    have := Zot (a := m) (b := n) (n := 11) (by rw [show (2 : Nat) ^ 11 = 2048 by decide]; omega) (by rw [show (2 : Nat) ^ 11 = 2048 by decide, show (2 : Nat) ^ 62 = 4611686018427387904 by decide]; omega)
    rw [show (2 : Nat) ^ 11 = 2048 by decide] at this
    rw [show ((n : Int) * 2048) = ((2048 * n : Nat) : Int) by omega, this]; omega
  have e3 : ∀ x y : Int, bor .i64 x y = bor .i64 y x := fun x y => by unfold bor; rw [BitVec.or_comm]
  rw [e b hb, e a ha, Option.bind_some, Option.bind_some, e2 a b ha hb, e3, e2 b a hb ha]
  exact ⟨rfl, by rw [Int.add_comm]⟩
theorem Zr9 {a b : Int} (h1 : 0 ≤ a ∧ a ≤ 65535) (h2 : 0 ≤ b ∧ b ≤ 65535) : i64 (b % 2048 * 2048) = b % 2048 * 2048 ∧ i64 (a % 2048 + b % 2048 * 2048) = a % 2048 + b % 2048 * 2048 ∧ i64 a = a ∧ i64 b = b := ⟨Xu (by omega) (by omega), Xu (by omega) (by omega), Xu (by omega) (by omega), Xu (by omega) (by omega)⟩
theorem Zlc {f : Vector Int 64} (h : fU f) : QP f = some (ZaA f) ∧ Zdk f = some (ZaA f) := by
  have v1 : ZI f 1 = some (wd f 1) := Q1 f (i := 1) (by decide)
  have v2 : ZI f 2 = some (wd f 2) := Q1 f (i := 2) (by decide)
  obtain ⟨e1, e2, e3, e4⟩ := Zr9 (h 1) (h 2)
  refine ⟨?_, ?_⟩
  · unfold QP ZaA
    rw [v1, Option.bind_some, ZfW (h 1), Option.bind_some, v2, Option.bind_some, ZfW (h 2), Option.bind_some, (Zqa (by omega) (by omega)).1]
  · unfold Zdk ZaA
    rw [v1, Option.bind_some, e3, Ziv (h 1).1 _ (by decide), Option.bind_some, v2, Option.bind_some, e4, Ziv (h 2).1 _ (by decide), Option.bind_some, e1, e2]
def ZbR (f : Vector Int 64) : Nat → Int
  | 0 => 0
  | k + 1 => ZhK .i64 (ZbR f k) (wd f (k + 1) % 2048)
theorem ZlO {f : Vector Int 64} (h : fU f) : JB f = some (ZbR f 60) ∧ Zki f = some (ZbR f 60) := by
  constructor
  · have := Zcy (body := XP f) (ZbR f) (ZbR f 60) (a := 0) (b := 60) (by decide) (fun k _ hk => by
      have hw := h (k + 1)
      unfold XP
      rw [if_pos (by simp; omega), Xu (by omega) (by omega), show (k : Int) + 1 = ((k + 1 : Nat) : Int) by push_cast; rfl, Q1 f (by omega), Option.bind_some, ZfW hw, Option.bind_some]
      rfl) (by unfold XP; rw [if_neg (by decide)])
    unfold JB
    rw [show ((0 : Int), (0 : Int)) = (ZbR f 0, ((0 : Nat) : Int)) from rfl, this]
    rfl
  · have := Zcy (body := Zdd f) (fun k => ZbR f (k - 1)) (ZbR f 60) (a := 1) (b := 61) (by decide) (fun k h1 hk => by
      have hw := h k
      obtain ⟨j, rfl⟩ : ∃ j, k = j + 1 := ⟨k - 1, by omega⟩
      unfold Zdd
      rw [if_pos (by simp; omega), Q1 f (by omega), Option.bind_some, Xu (by omega) (by omega), Ziv hw.1 _ (by decide), Option.bind_some, Xu (by omega) (by omega)]
      rfl) (by unfold Zdd; rw [if_neg (by decide)])
    unfold Zki
    rw [show ((0 : Int), (1 : Int)) = ((fun k => ZbR f (k - 1)) 1, ((1 : Nat) : Int)) from rfl, this]
    rfl
theorem ZjJ (f : Vector Int 64) : ∀ k, 0 ≤ ZbR f k ∧ ZbR f k < 2048
  | 0 => ⟨Int.le_refl 0, by show (0 : Int) < 2048; decide⟩
  | k + 1 => by
    have ih := ZjJ f k
    obtain ⟨a, ha⟩ : ∃ n : Nat, ZbR f k = n := ⟨(ZbR f k).toNat, by omega⟩
    obtain ⟨b, hb⟩ : ∃ n : Nat, wd f (k + 1) % 2048 = n := ⟨(wd f (k + 1) % 2048).toNat, by omega⟩
    rw [ZbR, hb, ha, Zoq (by omega) (by omega)]
    have : a ^^^ b < 2 ^ 11 := Nat.xor_lt_two_pow (by omega) (by omega)
    omega
def ZgR (f : Vector Int 64) (j : Nat) : Bool := decide (j < 744) && decide (wd f (j / 12) / (2 : Int) ^ (11 - j % 12) % 2 = 1)
theorem Zpv (x : Int) {k : Nat} (hk : k ≤ 11) : shr .u16 x (k : Int) = some (x / (2 : Int) ^ k) := by
  unfold shr
  have hm : min ((k : Int)).toNat IntKind.u16.bits = k := by
    have : IntKind.u16.bits = 16 := rfl
    rw [Int.toNat_natCast]; omega
  have hp : (0 : Int) < 2 ^ k := Int.pow_pos (by decide)
  rw [if_neg (by omega), hm, Int.fdiv_eq_ediv_of_nonneg _ (by omega)]
theorem ZjE (x : Int) {k : Nat} (hk : k ≤ 11) : shr .i64 x (k : Int) = some (x / (2 : Int) ^ k) := by
  unfold shr
  have hm : min ((k : Int)).toNat IntKind.i64.bits = k := by
    have : IntKind.i64.bits = 64 := rfl
    rw [Int.toNat_natCast]; omega
  have hp : (0 : Int) < 2 ^ k := Int.pow_pos (by decide)
  rw [if_neg (by omega), hm, Int.fdiv_eq_ediv_of_nonneg _ (by omega)]
theorem Zq4 {x : Int} (h : 0 ≤ x ∧ x ≤ 65535) (k : Nat) : 0 ≤ x / (2 : Int) ^ k ∧ x / (2 : Int) ^ k ≤ 65535 := by
  have hp : (0 : Int) < 2 ^ k := Int.pow_pos (by decide)
  have h1 := Int.ediv_nonneg h.1 (Int.le_of_lt hp)
  have h2 : x / (2 : Int) ^ k ≤ x := Int.ediv_le_self _ h.1
  omega
theorem Zly {x : Int} (h : 0 ≤ x ∧ x ≤ 65535) : XJ .u16 x 1 = x % 2 := by
  obtain ⟨n, rfl⟩ : ∃ n : Nat, x = n := ⟨x.toNat, by omega⟩
  have e0 : IntKind.u16.bits = 16 := rfl
  have e1 : (BitVec.ofInt 16 (n : Int)).toNat = n := by
    rw [BitVec.ofInt_natCast, BitVec.toNat_ofNat]; exact Nat.mod_eq_of_lt (by omega)
  have e2 : (BitVec.ofInt 16 1).toNat = 2 ^ 1 - 1 := rfl
  unfold XJ
  rw [e0, BitVec.toNat_and, e1, e2, Nat.and_two_pow_sub_one_eq_mod]
  have : n % 2 ^ 1 < 2 := Nat.mod_lt _ (by decide)
  simp only [IntKind.wrap, IntKind.signed, IntKind.bits]
  have e : (2 : Int) ^ 16 = 65536 := by decide
  simp [e]
  omega
def ckS (f : Vector Int 64) (k : Nat) : Int := ((pS (ZgR f) k).toNat : Int)
theorem ZnM (f : Vector Int 64) (j : Nat) : ckS f (j + 1) = if (!((!decide (XJ .i64 (ckS f j) 2097152 = 0)) == ZgR f j)) = true then ZhK .i64 (XJ .i64 (ckS f j * 2) 4194303) 2097167 else XJ .i64 (ckS f j * 2) 4194303 := by
  have := Zpa (pS (ZgR f) j) (ZgR f j)
  unfold ckS
  rw [pS, this, ZrZ, Bool.not_not, ZrB, Zsd]
  split <;> rfl
theorem Zjb {f : Vector Int 64} (h : fU f) : XE f = some (ckS f 744) := by
  have inner : ∀ i : Nat, i < 62 → loop (t2 (QJ f (i : Int))) (ckS f (12 * i), 11) = some (ckS f (12 * (i + 1))) := fun i hi => by
    have hw := h i
    have := ZpR (body := QJ f (i : Int)) (fun j => ckS f (12 * i + j)) (ckS f (12 * (i + 1))) (b := 12) (fun k hk => by
      have hd := Zq4 hw k
      have hv := (pS (ZgR f) (12 * i + (12 - 1 - k))).isLt
      unfold QJ
      have e1 : shl .i64 (ckS f (12 * i + (12 - 1 - k))) 1 = some (ckS f (12 * i + (12 - 1 - k)) * 2) := Zrt _
      rw [if_pos (by simp), e1, Option.bind_some, Q1 f (by omega), Option.bind_some, Zpv _ (by omega), Option.bind_some, Zly hd, Xu (by omega) (by omega)]
      have eb : ZgR f (12 * i + (12 - 1 - k)) = decide (wd f i / (2 : Int) ^ k % 2 = 1) := by
        unfold ZgR
        rw [decide_eq_true (show 12 * i + (12 - 1 - k) < 744 by omega), Bool.true_and, show (12 * i + (12 - 1 - k)) / 12 = i by omega, show 11 - (12 * i + (12 - 1 - k)) % 12 = k by omega]
      have := ZnM f (12 * i + (12 - 1 - k))
      rw [eb] at this
      rw [show 12 * i + (12 - k) = 12 * i + (12 - 1 - k) + 1 by omega, this]
      split <;> rfl) (by unfold QJ; rw [if_neg (by decide)]; rw [show 12 * (i + 1) = 12 * i + 12 by omega])
    exact this
  have := Zcy (body := Q2 f) (fun i => ckS f (12 * i)) (ckS f 744) (a := 0) (b := 62) (by decide) (fun k _ hk => by
    unfold Q2
    rw [if_pos (by simp; omega), inner k hk, Option.bind_some, ZaN, Xu (by omega) (by omega)]) (by unfold Q2; rw [if_neg (by decide)])
  unfold XE
  have e0 : ((0 : Int), (0 : Int)) = ((fun i => ckS f (12 * i)) 0, ((0 : Nat) : Int)) := rfl
  rw [e0, this]
  rfl
end Go.Vx

namespace Go.Vx
open Go Go.RowKit
theorem Zjc {ρ : Type} {body : Int → Option (Int ⊕ ρ)} (P : Nat → Bool) (A Z : ρ) {a b : Nat} (hab : a ≤ b)
    (hstep : ∀ k : Nat, a ≤ k → k < b → body (k : Int) = if P k = true then some (.inl ((k : Int) + 1)) else some (.inr A)) (hend : body (b : Int) = some (.inr Z)) :
    loop (t1 body) (a : Int) = some (cond ((List.range' a (b - a)).all P) Z A) := by
  refine Za5 (body := t1 body) (fun i => ∃ k : Nat, i = k ∧ a ≤ k ∧ k ≤ b) (fun i => b - i.toNat) (fun i => cond ((List.range' i.toNat (b - i.toNat)).all P) Z A) ?_ (a : Int) ⟨a, rfl, Nat.le_refl _, hab⟩
  rintro i ⟨k, rfl, h1, h2⟩
  simp only [Int.toNat_natCast, ZaN]
  rcases Nat.lt_or_ge k b with h | h
  · rw [hstep k h1 h]
    obtain ⟨n, hn⟩ : ∃ n, b - k = n + 1 := ⟨b - k - 1, by omega⟩
    rw [hn, List.range'_succ, List.all_cons]
    cases hp : P k
    · right; simp
    · left
      refine ⟨_, by rw [if_pos rfl], ⟨k + 1, by push_cast; rfl, by omega, h⟩, by omega, ?_⟩
      rw [show ((k : Int) + 1).toNat = k + 1 by omega, show b - (k + 1) = n by omega, Bool.true_and]
  · obtain rfl : k = b := by omega
    right
    rw [hend]; simp
noncomputable def ZrJ (n : Nat) : Bool := decide (J4 (n : Int) = ZcV (n : Int)) && (ZcV (n : Int)).isSome
theorem Zo1 : (List.range 4096).all ZrJ = true := by decide +kernel
noncomputable def Zfm (x : Int) : Bool := (ZcV x).getD false
theorem Zn8 {x : Int} (h : 0 ≤ x ∧ x ≤ 4095) : J4 x = some (Zfm x) ∧ Zex x = some (Zfm x) := by
  obtain ⟨n, rfl⟩ : ∃ n : Nat, x = n := ⟨x.toNat, by omega⟩
  have := List.all_eq_true.1 Zo1 n (List.mem_range.2 (by omega))
  simp only [ZrJ, Bool.and_eq_true, decide_eq_true_eq] at this
  obtain ⟨h2, h3⟩ := this
  obtain ⟨b, hb⟩ := Option.isSome_iff_exists.1 h3
  unfold Zfm
  rw [hb]
  exact ⟨h2.trans hb, Zk0 _ b hb⟩
def Zge (f : Vector Int 64) (k : Nat) : Bool := decide (wd f k ≤ 4095)
def Zfe (f : Vector Int 64) : Bool := (List.range' 0 64).all (Zge f)
theorem Zm0 {f : Vector Int 64} (h : Zfe f = true) (k : Nat) (hk : k < 64) : wd f k ≤ 4095 := by
  have := List.all_eq_true.1 h k (List.mem_range'.2 ⟨k, hk, by omega⟩)
  simpa [Zge] using this
theorem Zq7 (f : Vector Int 64) : ZcS f = some (!Zfe f) := by
  have := Zjc (body := ZaU f) (Zge f) (.inl true : Bool ⊕ Unit) (.inr ()) (a := 0) (b := 64) (by decide) (fun k _ hk => by
    unfold ZaU Zge
    rw [if_pos (by simp; omega), Q1 f hk, Option.bind_some, Xu (by omega) (by omega)]
    by_cases hw : 4095 < wd f k
    · rw [if_pos (by simpa using hw), if_neg (by simpa using hw)]
    · rw [if_neg (by simpa using hw), if_pos (by simpa using hw)]) (by unfold ZaU; rw [if_neg (by decide)])
  unfold ZcS
  have e0 : (0 : Int) = ((0 : Nat) : Int) := rfl
  rw [e0, this]
  unfold Zfe
  rw [Nat.sub_zero]
  cases (List.range' 0 64).all (Zge f) <;> rfl
def Zec (n : Int) : Int := gv_frame_syncs.toList.getD (n % 4).toNat 0
theorem Zjw {n : Int} (h : 0 ≤ n) : rem n 4 = some (n % 4) ∧ ZI gv_frame_syncs (n % 4) = some (Zec n) := by
  refine ⟨Ziv h _ (by decide), ?_⟩
  unfold ZI Zec
  rw [if_pos (by omega)]
  obtain ⟨x, hx⟩ := ZU (xs := gv_frame_syncs.toList) (k := (n % 4).toNat) (by simp; omega)
  rw [List.getD_eq_getElem?_getD, hx]; rfl
noncomputable def Znh (f : Vector Int 64) (k : Nat) : Bool := Zfm (wd f k)
def ckW (f : Vector Int 64) : Int := wd f 62 % 2048 * 2048 + wd f 63 % 2048
noncomputable def sndB (f : Vector Int 64) : Bool := Zfe f && (decide (wd f 0 = Zec (ZaA f)) && (decide (wd f 61 % 2048 = ZbR f 60) && ((List.range' 1 63).all (Znh f) && decide (ckW f = ckS f 744))))
theorem Zo8 {f : Vector Int 64} (h : fU f) : Zcc f = some (sndB f) := by
  unfold Zcc
  rw [Zq7, Option.bind_some]
  cases hn : Zfe f
  · unfold sndB
    rw [hn]
    simp [gd]
  · have hnb := Zmm f
    have h0 := h 0
    have v0 : ZI f 0 = some (wd f 0) := Q1 f (i := 0) (by decide)
    have v61 : ZI f 61 = some (wd f 61) := Q1 f (i := 61) (by decide)
    have v62 : ZI f 62 = some (wd f 62) := Q1 f (i := 62) (by decide)
    have v63 : ZI f 63 = some (wd f 63) := Q1 f (i := 63) (by decide)
    have ck := ckW f
    have e0 : ((!true) == false) = true := rfl
    have ob : 0 ≤ wd f 62 % 2048 ∧ wd f 62 % 2048 < 2048 := by omega
    have oc : 0 ≤ wd f 63 % 2048 ∧ wd f 63 % 2048 < 2048 := by omega
    rw [e0, ZhJ, v0, Option.bind_some, ZhJ, (Zlc h).1, Option.bind_some, ZhJ, (Zjw hnb.1).1, Option.bind_some, ZhJ, (Zjw hnb.1).2, Option.bind_some]
    unfold sndB
    rw [hn, Bool.not_true, Bool.false_or, Bool.true_and]
    by_cases hs : wd f 0 = Zec (ZaA f)
    · have e1 : decide (wd f 0 = Zec (ZaA f)) = true := decide_eq_true hs
      rw [e1, Bool.not_true, show (false == false) = true from rfl, ZhJ, v61, Option.bind_some, ZhJ, ZfW (h 61), Option.bind_some, ZhJ, (ZlO h).1, Option.bind_some, Bool.false_or, Bool.true_and]
      by_cases hs2 : wd f 61 % 2048 = ZbR f 60
      · rw [if_neg (by simp [hs2]), decide_eq_true hs2, Bool.true_and]
        have := Zjc (body := ZaB f) (Znh f) (.inl false : Bool ⊕ Unit) (.inr ()) (a := 1) (b := 64) (by decide) (fun k _ hk => by
          unfold ZaB Znh
          have := Zm0 hn k hk
          rw [if_pos (by simp; omega), Q1 f hk, Option.bind_some, (Zn8 ⟨(h k).1, this⟩).1, Option.bind_some, Xu (by omega) (by omega)]
          cases Zfm (wd f k) <;> rfl) (by unfold ZaB; rw [if_neg (by decide)])
        have e1 : (1 : Int) = ((1 : Nat) : Int) := rfl
        rw [e1, this, Option.bind_some]
        rw [show 64 - 1 = 63 from rfl]
        cases (List.range' 1 63).all (Znh f)
        · rfl
        · rw [Bool.true_and]
          show (ZI f 62).bind _ = _
          rw [v62, Option.bind_some, ZfW (h 62), Option.bind_some]
          unfold ckW
          have eb := (Zqa ob oc).2
          obtain ⟨q, hq, hq2⟩ : ∃ q, shl .i64 (wd f 62 % 2048) 11 = some q ∧ bor .i64 q (wd f 63 % 2048) = wd f 62 % 2048 * 2048 + wd f 63 % 2048 := by
            cases hh : shl .i64 (wd f 62 % 2048) 11 with
            | none => rw [hh] at eb; cases eb
            | some q => rw [hh, Option.bind_some] at eb; exact ⟨q, rfl, Option.some.inj eb⟩
          rw [hq, Option.bind_some, v63, Option.bind_some, ZfW (h 63), Option.bind_some, Zjb h, Option.bind_some, hq2]
      · rw [if_pos (by simp [hs2]), decide_eq_false hs2, Bool.false_and]
    · rw [decide_eq_false hs]
      simp [gd]
theorem ZpO {f : Vector Int 64} (h : fU f) : Zb6 f = some (sndB f) := by
  unfold Zb6
  rw [Zo8 h, Option.bind_some]
end Go.Vx

namespace Go.Vx
open Go Go.RowKit
end Go.Vx

namespace Go.Vx
open Go Go.RowKit
theorem ZrH {α : Type} {l : List α} {a b : Nat} (h1 : a ≤ b) (h2 : b ≤ l.length) : slc l (a : Int) (b : Int) = some ((l.take b).drop a) := by
  unfold slc
  rw [if_pos (by omega)]
  simp
end Go.Vx

namespace Go.Vx
open Go Go.RowKit
def ZqF {ε ρ : Type} (A : ε → ρ) (Z : ρ) : Option ε → ρ
  | some e => A e
  | none => Z
theorem ZcC {τ ρ ε : Type} {body : τ → Option (τ ⊕ ρ)} (S : Nat → τ) (P : Nat → Option ε) (A : ε → ρ) (Z : ρ) {b : Nat}
    (hstep : ∀ k, k < b → (∃ e, P k = some e ∧ body (S k) = some (.inr (A e))) ∨ (P k = none ∧ body (S k) = some (.inl (S (k + 1))))) (hend : body (S b) = some (.inr Z)) :
    loop body (S 0) = some (ZqF A Z ((List.range' 0 b).findSome? P)) := by
  have key : ∀ n k, k + n = b → loop body (S k) = some (ZqF A Z ((List.range' k n).findSome? P)) := by
    intro n
    induction n with
    | zero =>
      intro k hk
      obtain rfl : k = b := by omega
      rw [ZN, hend]; rfl
    | succ n ih =>
      intro k hk
      rw [ZN, List.range'_succ, List.findSome?_cons]
      rcases hstep k (by omega) with ⟨e, h1, h2⟩ | ⟨h1, h2⟩
      · rw [h1, h2]; rfl
      · rw [h1, h2]
        exact ih (k + 1) (by omega)
  exact key b 0 (by omega)
theorem Zik {ε : Type} {P : Nat → Option ε} {b : Nat} (h : (List.range' 0 b).findSome? P = none) (k : Nat) (hk : k < b) : P k = none :=
  List.findSome?_eq_none_iff.1 h k (List.mem_range'.2 ⟨k, hk, by omega⟩)
theorem ZqK (v : Vector Int 64) (g : Int → Bool) : v.toList.any g = true ↔ ∃ i, i < 64 ∧ g (wd v i) = true := by
  rw [List.any_eq_true]
  constructor
  · rintro ⟨x, hx, hg⟩
    obtain ⟨i, hi⟩ := List.getElem?_of_mem hx
    refine ⟨i, by have := (List.getElem?_eq_some_iff.1 hi).1; simpa using this, ?_⟩
    unfold wd
    rw [Zgd hi]; exact hg
  · rintro ⟨i, hi, hg⟩
    obtain ⟨x, hx⟩ := ZU (xs := v.toList) (k := i) (by simp; omega)
    unfold wd at hg
    rw [Zgd hx] at hg
    exact ⟨x, List.mem_of_getElem? hx, hg⟩
theorem Zi3 (s : List Int) (hs : s.length ≤ 1000000) (g : Int → Bool) : Z8 s (fun z0 => some (g z0)) = some (s.any g) := by
  have := ZcC (body := t1 (Z7 s (fun z0 => some (g z0)))) (fun k => (k : Int)) (fun k => if g (s.getD k 0) = true then some (k : Int) else none) (fun e => (.inl e : Int ⊕ Unit)) (.inr ()) (b := s.length) (fun k hk => by
    obtain ⟨x, hx⟩ := ZU hk
    have eb : Z7 s (fun z0 => some (g z0)) (k : Int) = if g x = true then some (.inr (.inl (k : Int))) else some (.inl ((k : Int) + 1)) := by
      unfold Z7
      rw [if_pos (by simp; omega), ZE hx, Option.bind_some, Option.bind_some, Xu (by omega) (by omega)]
    rw [ZaN, eb, Zgd hx]
    by_cases hg : g x = true
    · exact .inl ⟨_, by rw [if_pos hg], by rw [if_pos hg]⟩
    · exact .inr ⟨by rw [if_neg hg], by rw [if_neg hg]; push_cast; rfl⟩) (by
    rw [ZaN]
    unfold Z7
    rw [if_neg (by simp)])
  have e0 : (0 : Int) = ((0 : Nat) : Int) := rfl
  unfold Z8 Q9
  rw [e0, this, Option.bind_some]
  cases hf : (List.range' 0 s.length).findSome? (fun k => if g (s.getD k 0) = true then some (k : Int) else none) with
  | none =>
    show (some (-1 : Int)).bind _ = _
    rw [Option.bind_some]
    have : s.any g = false := by
      rw [List.any_eq_false]
      intro x hx hg
      obtain ⟨i, hi⟩ := List.getElem?_of_mem hx
      have := Zik hf i (List.getElem?_eq_some_iff.1 hi).1
      rw [Zgd hi, if_pos hg] at this
      cases this
    rw [this]; rfl
  | some e =>
    show (some (e : Int)).bind _ = _
    rw [Option.bind_some]
    obtain ⟨k, hk, hke⟩ := List.exists_of_findSome?_eq_some hf
    have hk2 : k < s.length := by obtain ⟨j, hj, rfl⟩ := List.mem_range'.1 hk; omega
    obtain ⟨x, hx⟩ := ZU hk2
    split at hke
    · rename_i hg
      cases hke
      rw [Zgd hx] at hg
      have : s.any g = true := List.any_eq_true.2 ⟨x, List.mem_of_getElem? hx, hg⟩
      rw [this, decide_eq_true (by omega)]
    · cases hke
theorem Zqc (v : Vector Int 64) : slc v.toList 0 (64 : Int) = some v.toList := by
  have := ZrH (l := v.toList) (a := 0) (b := 64) (by omega) (by simp)
  rw [show ((64 : Nat) : Int) = 64 from rfl, show ((0 : Nat) : Int) = 0 from rfl] at this
  rw [this, List.drop_zero, List.take_of_length_le (by simp)]
theorem Zqk (r : api_Rest) (a b : Int) : ZaK r a b = some (r.States.toList.any fun s => decide (s = a) || decide (s = b)) := by
  unfold ZaK
  rw [Zqc, Option.bind_some]
  have := Zi3 r.States.toList (by simp) (fun s => decide (s = a) || decide (s = b))
  unfold Zbw
  rw [this]; rfl
theorem ZrT (r : api_Rest) (a : Int) : Zb8 r a = some (!r.States.toList.any fun s => !decide (s = a)) := by
  unfold Zb8
  rw [Zqc, Option.bind_some]
  have := Zi3 r.States.toList (by simp) (fun s => !decide (s = a))
  unfold Zb4
  rw [this]; rfl
def stE (r : api_Rest) (i : Nat) : Option Int :=
  if wd r.States i < 0 ∨ 3 < wd r.States i then some 9 else if (wd r.States i = 0 ∧ wd r.Frame i ≠ 0) ∨ 4095 < wd r.Frame i then some 2 else none
def stF (r : api_Rest) : Option Int := (List.range' 0 64).findSome? (stE r)
theorem ZqG (r : api_Rest) : loop (t1 (Ql r)) 0 = some (ZqF .inl (.inr ()) (stF r)) := by
  have := ZcC (body := t1 (Ql r)) (fun k => (k : Int)) (stE r) (fun e => (.inl e : Int ⊕ Unit)) (.inr ()) (b := 64) (fun k hk => by
    have eb : Ql r (k : Int) = if (!(decide (0 ≤ wd r.States k) && decide (wd r.States k ≤ 3))) = true then some (.inr (.inl 9)) else (gd ((decide (wd r.States k = 0)) == true) 0 (some (wd r.Frame k))).bind fun x2 => (gd (((decide (wd r.States k = 0)) && (!decide (x2 = 0))) == false) 0 (some (wd r.Frame k))).bind fun x3 => if (((decide (wd r.States k = 0)) && (!decide (x2 = 0))) || (decide (4095 < x3))) = true then some (.inr (.inl 2)) else some (.inl ((k : Int) + 1)) := by
      unfold Ql Jv
      rw [if_pos (by simp; omega), Q1 _ hk, Q1 _ hk, Option.bind_some, Option.bind_some, Xu (by omega) (by omega)]
    rw [ZaN, eb]
    by_cases h1 : wd r.States k < 0 ∨ 3 < wd r.States k
    · have hg : (!(decide (0 ≤ wd r.States k) && decide (wd r.States k ≤ 3))) = true := by rw [Bool.not_eq_true', Bool.and_eq_false_iff, decide_eq_false_iff_not, decide_eq_false_iff_not]; omega
      exact .inl ⟨9, by unfold stE; rw [if_pos h1], by rw [hg, if_pos rfl]⟩
    · have hg : (!(decide (0 ≤ wd r.States k) && decide (wd r.States k ≤ 3))) = false := by rw [decide_eq_true (by omega), decide_eq_true (by omega)]; rfl
      rw [hg, if_neg Bool.false_ne_true]
      by_cases hbad : (wd r.States k = 0 ∧ wd r.Frame k ≠ 0) ∨ 4095 < wd r.Frame k
      · refine .inl ⟨2, by unfold stE; rw [if_neg h1, if_pos hbad], ?_⟩
        by_cases h0 : wd r.States k = 0
        · by_cases hf : wd r.Frame k = 0
          · exfalso; omega
          · simp [gd, h0, hf]
        · have hf : 4095 < wd r.Frame k := by omega
          simp [gd, h0, hf]
      · refine .inr ⟨by unfold stE; rw [if_neg h1, if_neg hbad], ?_⟩
        have hfr : ¬ 4095 < wd r.Frame k := by omega
        by_cases h0 : wd r.States k = 0
        · have hf : wd r.Frame k = 0 := by omega
          simp [gd, h0, hf]
        · simp [gd, h0, hfr]) (by
    rw [ZaN]
    unfold Ql
    rw [if_neg (by decide)])
  exact this
noncomputable def numN (f : Vector Int 64) : Int × Bool := if (Zfm (wd f 1) && Zfm (wd f 2)) = true then (ZaA f, true) else (0, false)
theorem Zog {f : Vector Int 64} (h : fU f) (h1 : wd f 1 ≤ 4095) (h2 : wd f 2 ≤ 4095) : Zbu f = some (numN f) ∧ Zhj f = some (numN f) := by
  have w1 := h 1
  have w2 := h 2
  have v1 : ZI f 1 = some (wd f 1) := Q1 f (i := 1) (by decide)
  have v2 : ZI f 2 = some (wd f 2) := Q1 f (i := 2) (by decide)
  obtain ⟨o1, o1'⟩ := Zn8 (x := wd f 1) ⟨w1.1, h1⟩
  obtain ⟨o2, o2'⟩ := Zn8 (x := wd f 2) ⟨w2.1, h2⟩
  obtain ⟨n1, n2⟩ := Zlc h
  have right : ∀ x : Int, 0 ≤ x → x ≤ 4095 → Zex x = some (Zfm x) → ZdQ x = some (Zfm x) := fun x a b e => by
    unfold ZdQ
    rw [decide_eq_true b, ZkA, Xu (by omega) (by omega), e, Option.bind_some, Bool.true_and]
  have r1 := right _ w1.1 h1 o1'
  have r2 := right _ w2.1 h2 o2'
  unfold Zbu Zhj numN
  rw [v1, v2, Option.bind_some, Option.bind_some, o1, r1, Option.bind_some, Option.bind_some, n1, n2]
  generalize ZaA f = n
  cases Zfm (wd f 1)
  · exact ⟨rfl, rfl⟩
  · simp only [Bool.not_true, ZhJ, show (false == false) = true from rfl, Option.bind_some, o2, r2]
    cases Zfm (wd f 2)
    · exact ⟨rfl, rfl⟩
    · exact ⟨rfl, rfl⟩
noncomputable def Zlu (f : Vector Int 64) (n : Int) : Bool := sndB f && decide ((numN f).1 = n)
theorem ZmY {f : Vector Int 64} (h : fU f) (h1 : wd f 1 ≤ 4095) (h2 : wd f 2 ≤ 4095) (n : Int) : X3 f n = some (Zlu f n) := by
  unfold X3
  rw [(Zog h h1 h2).1, Option.bind_some, ZpO h, Option.bind_some]; rfl
def ZkW (r : api_Rest) (a b : Int) : Bool := r.States.toList.any fun s => decide (s = a) || decide (s = b)
def Zqq (r : api_Rest) (a : Int) : Bool := !r.States.toList.any fun s => !decide (s = a)
noncomputable def ZhZ (r : api_Rest) : Int :=
  if r.Number < 0 ∨ 4194304 ≤ r.Number then 9 else
  match stF r with
  | some e => e
  | none =>
    if (r.Sound && (!Zlu r.Frame r.Number || ZkW r 0 1)) = true then 2
    else if (!r.Sound && ZkW r 3 2) = true then 2
    else if (decide (r.Copies < 0) || (decide (r.Copies = 0) && r.Sound && Zqq r 3)) = true then 9
    else if (r.Conflict && r.Sound) = true then 2 else 0
theorem Zig {r : api_Rest} (h : stF r = none) (i : Nat) (hi : i < 64) : 0 ≤ wd r.States i ∧ wd r.States i ≤ 3 ∧ wd r.Frame i ≤ 4095 ∧ (wd r.States i = 0 → wd r.Frame i = 0) := by
  have := Zik h i hi
  unfold stE at this
  split at this
  · cases this
  · split at this
    · cases this
    · omega
theorem ZkQ {r : api_Rest} (hU : fU r.Frame) : X7 r = some (ZhZ r) := by
  unfold X7 Jv ZhZ
  rw [Option.bind_some]
  by_cases hn : r.Number < 0 ∨ 4194304 ≤ r.Number
  · rw [if_pos hn, if_pos (by simp only [Bool.not_eq_true', Bool.and_eq_false_iff, decide_eq_false_iff_not]; omega)]
  · rw [if_neg hn, if_neg (by simp only [Bool.not_eq_true', Bool.and_eq_false_iff, decide_eq_false_iff_not]; omega), ZqG, Option.bind_some]
    cases hf : stF r with
    | some e => rfl
    | none =>
      have f1 := Zig hf 1 (by decide)
      have f2 := Zig hf 2 (by decide)
      show (gd (r.Sound == true) false (X3 r.Frame r.Number)).bind _ = some _
      rw [ZmY hU f1.2.2.1 f2.2.2.1]
      simp only [Zqk, ZrT]
      show _ = some (if (r.Sound && (!Zlu r.Frame r.Number || ZkW r 0 1)) = true then 2 else if (!r.Sound && ZkW r 3 2) = true then 2 else if (decide (r.Copies < 0) || (decide (r.Copies = 0) && r.Sound && Zqq r 3)) = true then 9 else if (r.Conflict && r.Sound) = true then 2 else 0)
      unfold ZkW Zqq
      generalize (r.States.toList.any fun s => decide (s = 0) || decide (s = 1)) = a1
      generalize (r.States.toList.any fun s => decide (s = 3) || decide (s = 2)) = a2
      generalize (r.States.toList.any fun s => !decide (s = 3)) = a3
      generalize decide (r.Copies < 0) = c1
      generalize decide (r.Copies = 0) = c2
      generalize Zlu r.Frame r.Number = z
      cases r.Sound <;> cases r.Conflict <;> cases z <;> cases a1 <;> cases a2 <;> cases a3 <;> cases c1 <;> cases c2 <;> rfl
end Go.Vx

namespace Go.Vx
open Go Go.RowKit
noncomputable def Zp7 (n : Nat) : Bool := match QQ (n : Int) with
  | some w => decide (0 ≤ w) && (decide (w ≤ 4095) && (decide (w % 2048 = (n : Int)) && Zfm w))
  | none => false
theorem ZnF : (List.range 2048).all Zp7 = true := by decide +kernel
noncomputable def wdv (d : Int) : Int := (QQ d).getD 0
theorem Zcm {d : Int} (h : 0 ≤ d ∧ d ≤ 2047) : QQ d = some (wdv d) ∧ (0 ≤ wdv d ∧ wdv d ≤ 4095) ∧ wdv d % 2048 = d ∧ Zfm (wdv d) = true := by
  obtain ⟨n, rfl⟩ : ∃ n : Nat, d = n := ⟨d.toNat, by omega⟩
  have := List.all_eq_true.1 ZnF n (List.mem_range.2 (by omega))
  unfold Zp7 at this
  unfold wdv
  cases hw : QQ (n : Int) with
  | none => rw [hw] at this; cases this
  | some w =>
    rw [hw] at this
    simp only [Bool.and_eq_true, decide_eq_true_eq] at this
    obtain ⟨a, b, c, d⟩ := this
    exact ⟨rfl, ⟨a, b⟩, c, d⟩
theorem Zd2 (f : Vector Int 64) {i : Nat} (x : Int) (hi : i < 64) (j : Nat) : wd (Qd f (i : Int) x) j = if j = i then x else wd f j := by
  unfold wd
  rw [ZcD, Int.toNat_natCast, List.getD_eq_getElem?_getD, List.getElem?_set]
  by_cases h : i = j
  · subst h
    rw [if_pos rfl, if_pos (by simp; omega), if_pos rfl]; rfl
  · rw [if_neg h, if_neg (fun e => h e.symm), List.getD_eq_getElem?_getD]
theorem ZjH (j : Nat) : wd (Vector.replicate 64 (0 : Int)) j = 0 := by
  unfold wd
  rw [Vector.toList_replicate, List.getD_eq_getElem?_getD, List.getElem?_replicate]; split <;> rfl
theorem Zia {f g : Vector Int 64} : ∀ k, (∀ i, 1 ≤ i → i ≤ k → wd f i = wd g i) → ZbR f k = ZbR g k
  | 0, _ => rfl
  | k + 1, h => by rw [ZbR, ZbR, Zia k (fun i a b => h i a (by omega)), h (k + 1) (by omega) (by omega)]
theorem ZlA {f g : Vector Int 64} (h : ∀ i, i < 62 → wd f i = wd g i) : ZgR f = ZgR g := by
  funext j
  unfold ZgR
  by_cases hj : j < 744
  · rw [h (j / 12) (by omega)]
  · rw [decide_eq_false hj]; rfl
noncomputable def Zcq (f0 : Vector Int 64) (data : List Int) : Nat → Vector Int 64
  | 0 => f0
  | k + 1 => Qd (Zcq f0 data k) ((3 + k : Nat) : Int) (wdv (data.getD k 0))
theorem Zma (f0 : Vector Int 64) (data : List Int) (j : Nat) : ∀ k, k ≤ 58 → wd (Zcq f0 data k) j = if 3 ≤ j ∧ j < 3 + k then wdv (data.getD (j - 3) 0) else wd f0 j
  | 0, _ => by rw [Zcq, if_neg (by omega)]
  | k + 1, hk => by
    rw [Zcq, Zd2 _ _ (by omega), Zma f0 data j k (by omega)]
    by_cases hj : j = 3 + k
    · subst hj
      rw [if_pos rfl, if_pos (by omega), show 3 + k - 3 = k by omega]
    · rw [if_neg hj]
      by_cases h2 : 3 ≤ j ∧ j < 3 + k
      · rw [if_pos h2, if_pos (by omega)]
      · rw [if_neg h2, if_neg (by omega)]
noncomputable def ZdV (f : Vector Int 64) : Vector Int 64 := Qd f ((0 : Nat) : Int) (Zec (ZaA f))
noncomputable def Zba (f : Vector Int 64) : Vector Int 64 := Qd (ZdV f) ((61 : Nat) : Int) (wdv (ZbR (ZdV f) 60))
noncomputable def Zlh (f : Vector Int 64) : Vector Int 64 := Qd (Zba f) ((62 : Nat) : Int) (wdv (ckS (Zba f) 744 / 2048))
noncomputable def Zdn (f : Vector Int 64) : Vector Int 64 := Qd (Zlh f) ((63 : Nat) : Int) (wdv (ckS (Zba f) 744 % 2048))
theorem ZoB (f : Vector Int 64) (k : Nat) : 0 ≤ ckS f k ∧ ckS f k < 4194304 := by
  unfold ckS
  have := (pS (ZgR f) k).isLt
  omega
theorem ZlX (n : Int) : 0 ≤ Zec n ∧ Zec n ≤ 4095 := by
  unfold Zec
  have h : n % 4 = 0 ∨ n % 4 = 1 ∨ n % 4 = 2 ∨ n % 4 = 3 := by omega
  rcases h with e | e | e | e <;> rw [e] <;> decide
theorem ZjI {f : Vector Int 64} (h : fU f) {i : Nat} (hi : i < 64) {x : Int} (hx : 0 ≤ x ∧ x ≤ 65535) : fU (Qd f (i : Int) x) := by
  intro j
  rw [Zd2 f x hi]
  split
  · exact hx
  · exact h j
theorem ZoP {f : Vector Int 64} (h : fU f) : JF f = some (Zdn f) := by
  have hb := Zmm f
  have hsy := ZlX (ZaA f)
  have h1 : fU (ZdV f) := ZjI h (by decide) (by omega)
  have hsb := ZjJ (ZdV f) 60
  obtain ⟨w1, w2, _, _⟩ := Zcm (d := ZbR (ZdV f) 60) (by omega)
  have h2 : fU (Zba f) := ZjI h1 (by decide) (by omega)
  have hcb := ZoB (Zba f) 744
  obtain ⟨v1, v2, _, _⟩ := Zcm (d := ckS (Zba f) 744 / 2048) (by omega)
  obtain ⟨u1, u2, _, _⟩ := Zcm (d := ckS (Zba f) 744 % 2048) (by omega)
  have i0 : ZI f 0 = some (wd f 0) := Q1 f (i := 0) (by decide)
  have i61 : ZI (ZdV f) 61 = some (wd (ZdV f) 61) := Q1 _ (i := 61) (by decide)
  have i62 : ZI (Zba f) 62 = some (wd (Zba f) 62) := Q1 _ (i := 62) (by decide)
  have i63 : ZI (Zlh f) 63 = some (wd (Zlh f) 63) := Q1 _ (i := 63) (by decide)
  have e1 : Qd f 0 (Zec (ZaA f)) = ZdV f := rfl
  have e2 : Qd (ZdV f) 61 (wdv (ZbR (ZdV f) 60)) = Zba f := rfl
  have e3 : Qd (Zba f) 62 (wdv (ckS (Zba f) 744 / 2048)) = Zlh f := rfl
  have e4 : Qd (Zlh f) 63 (wdv (ckS (Zba f) 744 % 2048)) = Zdn f := rfl
  have sh : shr .i64 (ckS (Zba f) 744) 11 = some (ckS (Zba f) 744 / 2048) := ZjE _ (k := 11) (by decide)
  have bd : XJ .i64 (ckS (Zba f) 744) 2047 = ckS (Zba f) 744 % 2048 := Zbr (v := ckS (Zba f) 744) (n := 11) (by decide)
  unfold JF
  rw [(Zlc h).1, Option.bind_some, (Zjw hb.1).1, Option.bind_some, (Zjw hb.1).2, Option.bind_some, i0, Option.bind_some, e1, (ZlO h1).1, Option.bind_some, w1, Option.bind_some, i61, Option.bind_some, e2, Zjb h2, Option.bind_some, sh, Option.bind_some, v1, Option.bind_some, bd, u1, Option.bind_some, i62, Option.bind_some, e3, i63, Option.bind_some, e4]
structure Made (f : Vector Int 64) (n : Int) (data : List Int) : Prop where
  u : fU f
  nar : ∀ i, wd f i ≤ 4095
  snd : sndB f = true
  num : numN f = (n, true)
  dat : ∀ j, j < 58 → wd f (3 + j) % 2048 = data.getD j 0
noncomputable def beg (n : Int) : Vector Int 64 := Qd (Qd (Vector.replicate 64 (0 : Int)) ((1 : Nat) : Int) (wdv (n % 2048))) ((2 : Nat) : Int) (wdv (n / 2048))
theorem Zr4 {n : Int} {data : List Int} (hn : 0 ≤ n ∧ n < 4194304) (hl : data.length = 58) (hd : ∀ d ∈ data, 0 ≤ d ∧ d ≤ 2047) : ∃ f, J7 n data = some (f, 0) ∧ Made f n data := by
  obtain ⟨a1, a2, a3, a4⟩ := Zcm (d := n % 2048) (by omega)
  obtain ⟨b1, b2, b3, b4⟩ := Zcm (d := n / 2048) (by omega)
  have hg : ∀ k, k < 58 → 0 ≤ data.getD k 0 ∧ data.getD k 0 ≤ 2047 := fun k hk => by
    obtain ⟨x, hx⟩ := ZU (xs := data) (k := k) (by omega)
    rw [List.getD_eq_getElem?_getD, hx]
    exact hd x (List.mem_of_getElem? hx)
  have hbeg : ∀ j, wd (beg n) j = if j = 2 then wdv (n / 2048) else if j = 1 then wdv (n % 2048) else 0 := fun j => by
    unfold beg
    rw [Zd2 _ _ (by decide), Zd2 _ _ (by decide), ZjH]
  have hW : ∀ j, wd (Zcq (beg n) data 58) j = if 3 ≤ j ∧ j < 61 then wdv (data.getD (j - 3) 0) else if j = 2 then wdv (n / 2048) else if j = 1 then wdv (n % 2048) else 0 := fun j => by
    rw [Zma _ _ _ 58 (by decide), hbeg]
  have hU : ∀ j, 0 ≤ wd (Zcq (beg n) data 58) j ∧ wd (Zcq (beg n) data 58) j ≤ 4095 := fun j => by
    rw [hW]
    split
    · exact (Zcm (hg (j - 3) (by omega))).2.1
    · split
      · exact b2
      · split
        · exact a2
        · omega
  have hfU : fU (Zcq (beg n) data 58) := fun j => by have := hU j; omega
  refine ⟨Zdn (Zcq (beg n) data 58), ?_, ?_⟩
  · have L := Zcy (body := Jf data) (Zcq (beg n) data) (.inr (Zcq (beg n) data 58) : (Vector Int 64 × Int) ⊕ Vector Int 64) (a := 0) (b := 58) (by decide) (fun k _ hk => by
      obtain ⟨x, hx⟩ := ZU (xs := data) (k := k) (by omega)
      have hdx := hd x (List.mem_of_getElem? hx)
      have hgx : data.getD k 0 = x := by rw [List.getD_eq_getElem?_getD, hx]; rfl
      unfold Jf
      rw [if_pos (by rw [decide_eq_true_eq]; omega), ZE hx, Option.bind_some, if_neg (by rw [decide_eq_false (by omega), decide_eq_false (by omega)]; decide), (Zcm hdx).1, Option.bind_some, Xu (z := 3 + (k : Int)) (by omega) (by omega), show 3 + (k : Int) = ((3 + k : Nat) : Int) by push_cast; rfl, Q1 _ (by omega), Option.bind_some, Xu (by omega) (by omega), Zcq, hgx]) (by
      unfold Jf
      rw [if_neg (by rw [decide_eq_true_eq]; omega)])
    have e0 : XJ .i64 n 2047 = n % 2048 := Zbr (v := n) (n := 11) (by decide)
    have e1 : shr .i64 n 11 = some (n / 2048) := ZjE _ (k := 11) (by decide)
    have i1 : ZI (Vector.replicate 64 (0 : Int)) 1 = some (wd (Vector.replicate 64 (0 : Int)) 1) := Q1 _ (i := 1) (by decide)
    have i2 : ZI (Qd (Vector.replicate 64 0) 1 (wdv (n % 2048))) 2 = some (wd (Qd (Vector.replicate 64 0) 1 (wdv (n % 2048))) 2) := Q1 _ (i := 2) (by decide)
    have eb : Qd (Qd (Vector.replicate 64 0) 1 (wdv (n % 2048))) 2 (wdv (n / 2048)) = Zcq (beg n) data 0 := rfl
    unfold J7
    rw [if_neg (by rw [decide_eq_false (by omega), decide_eq_false (by omega)]; decide), if_neg (by rw [decide_eq_true (by omega)]; decide), e0, a1, Option.bind_some, e1, Option.bind_some, b1, Option.bind_some, i1, Option.bind_some, i2, Option.bind_some, eb]
    have L' : loop (t2 (Jf data)) (Zcq (beg n) data 0, 0) = some (.inr (Zcq (beg n) data 58)) := L
    rw [L', Option.bind_some, Sum.elim_inr, ZaN, ZoP hfU, Option.bind_some]
  · generalize hF : Zcq (beg n) data 58 = F at hU hfU hW
    have hsy := ZlX (ZaA F)
    have h1 : fU (ZdV F) := ZjI hfU (by decide) (by omega)
    have hsb := ZjJ (ZdV F) 60
    obtain ⟨_, w2, w3, w4⟩ := Zcm (d := ZbR (ZdV F) 60) (by omega)
    have h2 : fU (Zba F) := ZjI h1 (by decide) (by omega)
    have hcb := ZoB (Zba F) 744
    obtain ⟨_, v2, v3, v4⟩ := Zcm (d := ckS (Zba F) 744 / 2048) (by omega)
    obtain ⟨_, u2, u3, u4⟩ := Zcm (d := ckS (Zba F) 744 % 2048) (by omega)
    have g1 : ∀ j, wd (ZdV F) j = if j = 0 then Zec (ZaA F) else wd F j := fun j => Zd2 _ _ (by decide) j
    have g2 : ∀ j, wd (Zba F) j = if j = 61 then wdv (ZbR (ZdV F) 60) else wd (ZdV F) j := fun j => Zd2 _ _ (by decide) j
    have g3 : ∀ j, wd (Zlh F) j = if j = 62 then wdv (ckS (Zba F) 744 / 2048) else wd (Zba F) j := fun j => Zd2 _ _ (by decide) j
    have g4 : ∀ j, wd (Zdn F) j = if j = 63 then wdv (ckS (Zba F) 744 % 2048) else wd (Zlh F) j := fun j => Zd2 _ _ (by decide) j
    have G : ∀ j, 1 ≤ j → j ≤ 60 → wd (Zdn F) j = wd F j := fun j a b => by rw [g4, if_neg (by omega), g3, if_neg (by omega), g2, if_neg (by omega), g1, if_neg (by omega)]
    have G1 : ∀ j, 1 ≤ j → j ≤ 60 → wd (ZdV F) j = wd F j := fun j a b => by rw [g1, if_neg (by omega)]
    have K0 : wd (Zdn F) 0 = Zec (ZaA F) := by rw [g4, if_neg (by decide), g3, if_neg (by decide), g2, if_neg (by decide), g1, if_pos rfl]
    have K61 : wd (Zdn F) 61 = wdv (ZbR (ZdV F) 60) := by rw [g4, if_neg (by decide), g3, if_neg (by decide), g2, if_pos rfl]
    have K62 : wd (Zdn F) 62 = wdv (ckS (Zba F) 744 / 2048) := by rw [g4, if_neg (by decide), g3, if_pos rfl]
    have K63 : wd (Zdn F) 63 = wdv (ckS (Zba F) 744 % 2048) := by rw [g4, if_pos rfl]
    have f1 : wd F 1 = wdv (n % 2048) := by rw [hW, if_neg (by omega), if_neg (by decide), if_pos rfl]
    have f2 : wd F 2 = wdv (n / 2048) := by rw [hW, if_neg (by omega), if_pos rfl]
    have fD : ∀ j, j < 58 → wd F (3 + j) = wdv (data.getD j 0) := fun j hj => by rw [hW, if_pos (by omega), show 3 + j - 3 = j by omega]
    have efn : ZaA (Zdn F) = ZaA F := by unfold ZaA; rw [G 1 (by decide) (by decide), G 2 (by decide) (by decide)]
    have fnv : ZaA F = n := by unfold ZaA; rw [f1, f2, a3, b3]; omega
    have hall : ∀ j, 0 ≤ wd (Zdn F) j ∧ wd (Zdn F) j ≤ 4095 := fun j => by
      rw [g4]; split
      · exact u2
      · rw [g3]; split
        · exact v2
        · rw [g2]; split
          · exact w2
          · rw [g1]; split
            · exact hsy
            · exact hU j
    have o1 : Zfm (wd (Zdn F) 1) = true := by rw [G 1 (by decide) (by decide), f1]; exact a4
    have o2 : Zfm (wd (Zdn F) 2) = true := by rw [G 2 (by decide) (by decide), f2]; exact b4
    have odd : ∀ j, 1 ≤ j → j < 64 → Zfm (wd (Zdn F) j) = true := fun j a b => by
      rcases Nat.lt_or_ge j 61 with hj | hj
      · rcases (show j = 1 ∨ j = 2 ∨ 3 ≤ j by omega) with rfl | rfl | h3
        · exact o1
        · exact o2
        · rw [G j a (by omega), show j = 3 + (j - 3) by omega, fD _ (by omega)]
          exact (Zcm (hg _ (by omega))).2.2.2
      · rcases (show j = 61 ∨ j = 62 ∨ j = 63 by omega) with rfl | rfl | rfl
        · rw [K61]; exact w4
        · rw [K62]; exact v4
        · rw [K63]; exact u4
    refine ⟨fun j => by have := hall j; omega, fun j => (hall j).2, ?_, ?_, fun j hj => ?_⟩
    · unfold sndB
      have n1 : Zfe (Zdn F) = true := List.all_eq_true.2 fun k _ => decide_eq_true (hall k).2
      have n2 : (List.range' 1 63).all (Znh (Zdn F)) = true := List.all_eq_true.2 fun k hk => by
        obtain ⟨i, hi, rfl⟩ := List.mem_range'.1 hk
        exact odd _ (by omega) (by omega)
      have n3 : ZbR (Zdn F) 60 = ZbR (ZdV F) 60 := Zia 60 fun i a b => by rw [G i a b, G1 i a b]
      have n4 : ZgR (Zdn F) = ZgR (Zba F) := ZlA fun i hi => by rw [g4, if_neg (by omega), g3, if_neg (by omega)]
      have n5 : ckS (Zdn F) 744 = ckS (Zba F) 744 := by unfold ckS; rw [n4]
      have n6 : ckW (Zdn F) = ckS (Zba F) 744 := by unfold ckW; rw [K62, K63, v3, u3]; omega
      rw [n1, n2, n3, n5, n6, K0, efn, K61, w3, decide_eq_true rfl, decide_eq_true rfl, decide_eq_true rfl]
      rfl
    · unfold numN
      rw [o1, o2, efn, fnv]
      rfl
    · rw [G _ (by omega) (by omega), fD j hj]
      exact (Zcm (hg j hj)).2.2.1
end Go.Vx

namespace Go.Vx
open Go Go.RowKit
section
variable {α ε : Type}
def ZY (g : Nat → α → Option ε) : Nat → List α → Option ε
  | _, [] => none
  | k, x :: tl => match g k x with | some e => some e | none => ZY g (k + 1) tl
theorem JK {ρ : Type} {xs : List α} (g : Nat → α → Option ε) (A : ε → ρ) (Z : ρ) {body : Int → Option (Int ⊕ ρ)}
    (h : ∀ (k : Nat) x, xs[k]? = some x → body k = Jk (fun e => some (.inr (A e))) (some (.inl ((k : Int) + 1))) (g k x))
    (hend : body xs.length = some (.inr Z)) : loop (t1 body) 0 = some (Jk A Z (ZY g 0 xs)) := by
  refine Zf2 (xs := xs) (fun k => Jk A Z (ZY g k (xs.drop k))) (fun k x hx => ?_) ?_
  · rw [h k x hx, ZO hx]
    simp only [ZY]
    cases hg : g k x with
    | some e => right; rfl
    | none => left; exact ⟨rfl, rfl⟩
  · rw [hend]; simp [ZY]
theorem Zhv {g g' : Nat → α → Option ε} : ∀ (k : Nat) (xs : List α), (∀ (j : Nat) x, xs[j]? = some x → g (k + j) x = g' (k + j) x) → ZY g k xs = ZY g' k xs
  | _, [], _ => rfl
  | k, x :: tl, h => by
    have h0 := h 0 x rfl
    rw [Nat.add_zero] at h0
    have ih := Zhv (g := g) (g' := g') (k + 1) tl fun j y hy => by
      have := h (j + 1) y (by simpa using hy)
      rwa [show k + (j + 1) = k + 1 + j by omega] at this
    simp only [ZY, h0]
    rw [ih]
theorem Zh9 {g : Nat → α → Option ε} : ∀ (k : Nat) (xs : List α), ZY g k xs = none → ∀ (j : Nat) x, xs[j]? = some x → g (k + j) x = none
  | _, [], _, j, x, hx => by simp at hx
  | k, y :: tl, h, j, x, hx => by
    simp only [ZY] at h
    cases hy : g k y with
    | some e => rw [hy] at h; cases h
    | none =>
      rw [hy] at h
      cases j with
      | zero => simp at hx; subst hx; simpa using hy
      | succ j =>
        have := Zh9 (k + 1) tl h j x (by simpa using hx)
        rwa [show k + 1 + j = k + (j + 1) by omega] at this
theorem Zjn {p : α → Bool} : ∀ (k : Nat) (xs : List α), ZY (fun _ x => if p x then none else some ()) k xs = if xs.all p then none else some ()
  | _, [] => rfl
  | k, x :: tl => by
    have ih := Zjn (p := p) (k + 1) tl
    simp only [ZY, List.all_cons]
    by_cases hp : p x = true
    · simp only [hp, if_true, Bool.true_and]; exact ih
    · have hp' : p x = false := by simpa using hp
      simp [hp']
end
theorem ZpB {k : Nat} {n : Nat} (h : k < n) (hn : n ≤ 9223372036854775807) : i64 ((k : Int) + 1) = (k : Int) + 1 := ZcP (by omega) (by omega)
theorem Zpt {s : Str} {k : Nat} {b : UInt8} (h : s[k]? = some b) : Zhx s (k : Int) = some ((b.toNat : Nat) : Int) := by simp [Zhx, h]
def lcI (z : Int) : Bool := decide (97 ≤ z) && decide (z ≤ 122)
def nbI (z : Int) : Bool := (lcI z || (decide (48 ≤ z) && decide (z ≤ 57))) || decide (z = 45)
def lcB (b : UInt8) : Bool := lcI (b.toNat : Int)
def nbB (b : UInt8) : Bool := nbI (b.toNat : Int)
theorem Zp5 {z : Int} (h : lcI z = true) : nbI z = true := by simp [nbI, h]
theorem Zky {α : Type} {body : List α → Int → Option ((List α × Int) ⊕ (List α))} (n : Nat) (g : Nat → α)
    (hstep : ∀ (k : Nat) acc, k < n → acc.length = k → body acc k = some (.inl (acc ++ [g k], (k : Int) + 1)))
    (hend : ∀ acc, body acc n = some (.inr acc)) : loop (t2 body) ([], 0) = some ((List.range n).map g) := by
  have := Za5 (body := t2 body) (fun p => ∃ k : Nat, p.2 = k ∧ k ≤ n ∧ p.1 = (List.range k).map g) (fun p => n - p.2.toNat) (fun _ => (List.range n).map g) (by
    rintro ⟨acc, i⟩ ⟨k, hi, hk, ha⟩
    simp only at hi ha
    subst hi ha
    simp only [J3]
    rcases Nat.lt_or_ge k n with h | h
    · left
      refine ⟨_, hstep k _ h (by simp), ⟨k + 1, by push_cast; rfl, h, by simp [List.range_succ]⟩, by simp only; omega, trivial⟩
    · have : k = n := by omega
      subst this
      exact .inr (hend _)) ([], 0) ⟨0, rfl, Nat.zero_le _, rfl⟩
  exact this
end Go.Vx

namespace Go.Vx
open Go Go.RowKit
theorem ZqX {s : ByteArray} {i : Nat} (h : (s.get! i).toNat < 128) : Utf8.decode s i = ((s.get! i).toNat, 1) := by
  simp only [Utf8.decode, Nat.add_zero]
  rw [if_pos h]
theorem ZqD {s : ByteArray} {i : Nat} (h : ¬ (s.get! i).toNat < 128) : 128 ≤ (Utf8.decode s i).1 := by
  simp only [Utf8.decode, Nat.add_zero]
  rw [if_neg h]
  repeat' split
  all_goals first
    | (simp only [Utf8.runeError]; omega)
    | (simp only [Bool.and_eq_true, decide_eq_true_eq] at *; omega)
    | (simp only; omega)
theorem Zof {s : Str} {k : Nat} {b : UInt8} (h : s[k]? = some b) : (ByteArray.mk s.toArray).get! k = b := by
  simp [ByteArray.get!, h]
theorem ZlP {p : Nat → Bool} (hp : ∀ x, 128 ≤ x → p x = true) {s : Str} : ∀ (f pos : Nat), s.length ≤ pos + f →
    decide (0 ≤ Lib.idxFuncFrom p true ⟨s.toArray⟩ f pos) = (s.drop pos).any fun b => p b.toNat
  | 0, pos, h => by
    have : s.drop pos = [] := List.drop_eq_nil_of_le (by omega)
    rw [this]; simp [Lib.idxFuncFrom]
  | f + 1, pos, h => by
    have hsz : (ByteArray.mk s.toArray).size = s.length := by simp [ByteArray.size]
    unfold Lib.idxFuncFrom
    rw [hsz]
    rcases Nat.lt_or_ge pos s.length with hl | hl
    · obtain ⟨b, hb⟩ := ZU hl
      rw [if_pos hl, ZO hb, List.any_cons]
      have hg := Zof hb
      by_cases h8 : b.toNat < 128
      · have hd : Utf8.decode ⟨s.toArray⟩ pos = (b.toNat, 1) := by rw [ZqX (by rw [hg]; exact h8), hg]
        rw [hd]
        by_cases hpb : p b.toNat = true
        · rw [if_pos hpb]; simp only [hpb, Bool.true_or]; rw [decide_eq_true_eq]; omega
        · rw [if_neg hpb]
          have hpb' : p b.toNat = false := by simpa using hpb
          rw [hpb', Bool.false_or]
          exact ZlP hp f (pos + 1) (by omega)
      · have hd := ZqD (s := ⟨s.toArray⟩) (i := pos) (by rw [hg]; exact h8)
        rw [if_pos (hp _ hd), hp b.toNat (by omega), Bool.true_or, decide_eq_true_eq]; omega
    · have : s.drop pos = [] := List.drop_eq_nil_of_le (by omega)
      rw [if_neg (by omega), this]; simp
theorem Zpj {s : Str} {f : Int → Option Bool} {p : Nat → Bool} (hf : ∀ x : Nat, f x = some (p x)) (hp : ∀ x, 128 ≤ x → p x = true) :
    ZaL s f = some (s.any fun b => p b.toNat) := by
  unfold ZaL
  rw [if_pos (fun x _ => by rw [hf]; rfl)]
  have e : (fun x : Nat => (f x).getD false) = p := by funext x; rw [hf]; rfl
  rw [e]
  have := ZlP hp (s := s) s.length 0 (by omega)
  rw [List.drop_zero] at this
  rw [← this]
  have hsz : (ByteArray.mk s.toArray).size = s.length := by simp [ByteArray.size]
  unfold Lib.idxFunc
  rw [hsz]
def nmL (s : Str) : Bool := match s with
  | [] => false
  | c :: tl => decide (tl.length ≤ 29) && lcB c && tl.all nbB
theorem ZmK (x : Nat) : Za3 x = some (!nbI x) := rfl
theorem ZrG (x : Nat) (h : 128 ≤ x) : (!nbI x) = true := by
  have h1 : decide ((x : Int) ≤ 122) = false := by rw [decide_eq_false_iff_not]; omega
  have h2 : decide ((x : Int) ≤ 57) = false := by rw [decide_eq_false_iff_not]; omega
  have h3 : decide ((x : Int) = 45) = false := by rw [decide_eq_false_iff_not]; omega
  unfold nbI lcI
  rw [h1, h2, h3]; simp
theorem Zoh : ∀ s : Str, (s.any fun b => !nbI (b.toNat : Int)) = !(s.all nbB)
  | [] => rfl
  | c :: tl => by
    rw [List.any_cons, List.all_cons, Bool.not_and, Zoh tl]; rfl
theorem Zk7 (s : Str) : J9 s = some (nmL s) := by
  unfold J9
  cases s with
  | nil => simp [nmL, gd]
  | cons c tl =>
    have h0 : Zhx (c :: tl) 0 = some ((c.toNat : Nat) : Int) := rfl
    have h1 : ¬ ((c :: tl).length : Int) < 1 := by simp; omega
    rw [Zpj ZmK ZrG, h0]
    simp only [h1, decide_false, Bool.false_or, nmL]
    by_cases h2 : 30 < ((c :: tl).length : Int)
    · have h3 : ¬ tl.length ≤ 29 := by simp at h2; omega
      simp only [h2, h3, decide_true, decide_false, Bool.true_or, Bool.false_and, if_true]
      simp [gd]
    · have h3 : tl.length ≤ 29 := by simp at h2; omega
      have ea : ((c :: tl).any fun b => !nbI (b.toNat : Int)) = !(nbB c && tl.all nbB) := Zoh (c :: tl)
      rw [ea]
      simp only [h2, h3, decide_false, decide_true, Bool.false_or, ZhJ, Option.bind_some, beq_self_eq_true, Bool.true_and]
      by_cases h4 : (c.toNat : Int) < 97
      · have : lcB c = false := by simp [lcB, lcI]; omega
        simp [h4, this, gd]
      · by_cases h5 : 122 < (c.toNat : Int)
        · have : lcB c = false := by simp [lcB, lcI]; omega
          simp [h4, h5, this]
        · have e1 : lcB c = true := by simp [lcB, lcI]; omega
          have e2 : nbB c = true := Zp5 e1
          simp [h4, h5, e1, e2]
theorem Zmh (s : Str) (hs : s.length ≤ 9223372036854775807) : Zbn s = some (nmL s) := by
  unfold Zbn
  have hloop : loop (t1 (Jo s)) 0 = some (Jk (fun _ => Sum.inl false) (Sum.inr ()) (ZY (fun k b => if (lcB b || (decide (0 < k) && nbB b)) = true then none else some ()) 0 s)) := by
    refine JK (xs := s) (body := Jo s) _ _ _ (fun k x hx => ?_) (by simp [Jo])
    have hlt := Xh hx
    have e1 : i64 ((k : Int) + 1) = (k : Int) + 1 := ZpB (n := s.length) (by omega) hs
    simp only [Jo, hlt, decide_true, if_true, Zpt hx, Option.bind_some, e1]
    have e2 : (((decide (97 ≤ ((x.toNat : Nat) : Int))) && (decide (((x.toNat : Nat) : Int) ≤ 122))) || ((decide (0 < (k : Int))) && (((decide (48 ≤ ((x.toNat : Nat) : Int))) && (decide (((x.toNat : Nat) : Int) ≤ 57))) || (decide (((x.toNat : Nat) : Int) = 45))))) = (lcB x || (decide (0 < k) && nbB x)) := by
      show (lcB x || (_ && _)) = _
      have ek : decide (0 < (k : Int)) = decide (0 < k) := by rw [decide_eq_decide]; omega
      rw [ek]
      unfold nbB nbI
      show _ = (lcB x || (_ && ((lcB x || _) || _)))
      cases lcB x <;> simp
    rw [e2]
    cases (lcB x || (decide (0 < k) && nbB x)) <;> simp
  rw [hloop]
  cases s with
  | nil => simp [nmL, ZY]
  | cons c tl =>
    have htl : ZY (fun k b => if (lcB b || (decide (0 < k) && nbB b)) = true then none else some ()) 1 tl = if tl.all nbB then none else some () := by
      rw [← Zjn 1]
      refine Zhv 1 tl fun j x _ => ?_
      have : decide (0 < 1 + j) = true := decide_eq_true (by omega)
      rw [this, Bool.true_and]
      cases h : lcB x with
      | false => simp
      | true => have : nbB x = true := Zp5 h; simp [this]
    simp only [ZY, htl, nmL]
    cases hc : lcB c with
    | false => simp
    | true =>
      cases ha : tl.all nbB with
      | false => simp
      | true =>
        have e1 : decide (1 ≤ ((c :: tl).length : Int)) = true := by rw [decide_eq_true_eq]; simp; omega
        have e2 : decide (((c :: tl).length : Int) ≤ 30) = decide (tl.length ≤ 29) := by rw [decide_eq_decide]; simp; omega
        simp only [e1, e2]; simp
theorem ZlR (p : api_Param) : ZdI p = Xb p := rfl
end Go.Vx

namespace Go.Vx
open Go Go.RowKit
def wiL (n a b : Int) : Bool := decide (a ≤ n) && decide (n ≤ b)
theorem Zcw {n a b : Int} : wiL n a b = true ↔ a ≤ n ∧ n ≤ b := by simp [wiL]
theorem ZcB (n a b : Int) : Z6 n a b = some (wiL n a b) := rfl
theorem ZdT (n a b : Int) : Qy n a b = some (!wiL n a b) := by
  unfold Qy wiL
  congr 1
  rw [Bool.not_and]
  have e1 : decide (n < a) = !decide (a ≤ n) := by rw [← decide_not, decide_eq_decide]; omega
  have e2 : decide (b < n) = !decide (n ≤ b) := by rw [← decide_not, decide_eq_decide]; omega
  rw [e1, e2]
def bitsN (p : api_Param) : Int := (p.Parts.map (·.Bits)).sum
def ZbD (x : api_Part) : Bool := wiL x.Frame 0 15 && wiL x.Word 4 60 && wiL x.Low 0 10 && wiL x.Bits 1 (11 - x.Low)
def lenOK (p : api_Param) : Prop := p.Parts.length ≤ 8 ∧ ∀ x ∈ p.Parts, ZbD x = true
theorem JQ {x : api_Part} : ZbD x = true ↔ (0 ≤ x.Frame ∧ x.Frame ≤ 15) ∧ (4 ≤ x.Word ∧ x.Word ≤ 60) ∧ (0 ≤ x.Low ∧ x.Low ≤ 10) ∧ (1 ≤ x.Bits ∧ x.Bits ≤ 11 - x.Low) := by
  simp [ZbD, wiL, and_assoc]
theorem ZoX {l : List api_Part} (h : ∀ x ∈ l, ZbD x = true) : (l.length : Int) ≤ (l.map (·.Bits)).sum ∧ (l.map (·.Bits)).sum ≤ 11 * (l.length : Int) := by
  induction l with
  | nil => simp
  | cons x l ih =>
    obtain ⟨h1, h2⟩ := ih fun y hy => h y (List.mem_cons_of_mem _ hy)
    have := JQ.1 (h x List.mem_cons_self)
    simp only [List.map_cons, List.sum_cons, List.length_cons]
    push_cast
    omega
theorem ZgU {p : api_Param} (h : lenOK p) : Xb p = some (bitsN p) := by
  have key : loop (t2 (XI p)) (0, 0) = some (bitsN p) := by
    have := ZeI (xs := p.Parts) (body := XI p) (I := fun n k => n + ((p.Parts.drop k).map (·.Bits)).sum = bitsN p ∧ 0 ≤ n ∧ n ≤ 11 * k) (F := fun _ _ => bitsN p)
      (fun n k x hI hx => by
        obtain ⟨h1, h2, h3⟩ := hI
        have hp := JQ.1 (h.2 x (List.mem_of_getElem? hx))
        have hlt := Xh hx
        have h8 := h.1
        rw [ZO hx, List.map_cons, List.sum_cons] at h1
        left
        refine ⟨n + x.Bits, ?_, ⟨by omega, by omega, by push_cast; omega⟩, rfl⟩
        simp only [XI, hlt, decide_true, if_true, ZE hx, Option.bind_some]
        rw [ZX (by omega) (by omega), ZX (by omega) (by omega)])
      (fun n hI => by
        obtain ⟨h1, _, _⟩ := hI
        rw [List.drop_length] at h1
        simp at h1
        simp [XI, h1]) (a0 := 0) ⟨by simp [bitsN], by omega, by omega⟩
    exact this
  unfold Xb
  rw [key]; rfl
theorem Zmy {xs : List Int} {v : Int} (hl : xs.length ≤ 9223372036854775807) : QH xs v = some (decide (v ∈ xs)) := by
  have key : loop (t1 (Qj xs v)) 0 = some (Jk Sum.inl (Sum.inr ()) (ZY (fun k x => if v = x then some (k : Int) else none) 0 xs)) := by
    refine JK (xs := xs) (body := Qj xs v) _ _ _ (fun k x hx => ?_) (by simp [Qj])
    have hlt := Xh hx
    simp only [Qj, hlt, decide_true, if_true, ZE hx, Option.bind_some]
    rw [ZpB (n := xs.length) (by omega) hl]
    by_cases h : v = x <;> simp [h]
  have fnd : ∀ (k : Nat) (l : List Int), (v ∈ l ∧ ∃ j : Nat, ZY (fun k x => if v = x then some (k : Int) else none) k l = some (j : Int)) ∨ (v ∉ l ∧ ZY (fun k x => if v = x then some (k : Int) else none) k l = none) := by
    intro k l
    induction l generalizing k with
    | nil => right; simp [ZY]
    | cons x l ih =>
      by_cases h : v = x
      · left; subst h; exact ⟨List.mem_cons_self, k, by simp [ZY]⟩
      · rcases ih (k + 1) with ⟨h1, j, h2⟩ | ⟨h1, h2⟩
        · left; exact ⟨List.mem_cons_of_mem _ h1, j, by simp [ZY, h, h2]⟩
        · right; exact ⟨by simp [h, h1], by simp [ZY, h, h2]⟩
  unfold QH X8
  rw [key]
  rcases fnd 0 xs with ⟨h1, j, h2⟩ | ⟨h1, h2⟩
  · rw [h2]; simp [h1]
  · rw [h2]; simp [h1]
theorem ZmS {xs : List Str} {v : Str} (hl : xs.length ≤ 9223372036854775807) : Qc xs v = some (decide (v ∈ xs)) := by
  have key : loop (t1 (ZZ xs v)) 0 = some (Jk Sum.inl (Sum.inr ()) (ZY (fun k x => if v = x then some (k : Int) else none) 0 xs)) := by
    refine JK (xs := xs) (body := ZZ xs v) _ _ _ (fun k x hx => ?_) (by simp [ZZ])
    have hlt := Xh hx
    simp only [ZZ, hlt, decide_true, if_true, ZE hx, Option.bind_some]
    rw [ZpB (n := xs.length) (by omega) hl]
    by_cases h : v = x <;> simp [h]
  have fnd : ∀ (k : Nat) (l : List Str), (v ∈ l ∧ ∃ j : Nat, ZY (fun k x => if v = x then some (k : Int) else none) k l = some (j : Int)) ∨ (v ∉ l ∧ ZY (fun k x => if v = x then some (k : Int) else none) k l = none) := by
    intro k l
    induction l generalizing k with
    | nil => right; simp [ZY]
    | cons x l ih =>
      by_cases h : v = x
      · left; subst h; exact ⟨List.mem_cons_self, k, by simp [ZY]⟩
      · rcases ih (k + 1) with ⟨h1, j, h2⟩ | ⟨h1, h2⟩
        · left; exact ⟨List.mem_cons_of_mem _ h1, j, by simp [ZY, h, h2]⟩
        · right; exact ⟨by simp [h, h1], by simp [ZY, h, h2]⟩
  unfold Qc QS
  rw [key]
  rcases fnd 0 xs with ⟨h1, j, h2⟩ | ⟨h1, h2⟩
  · rw [h2]; simp [h1]
  · rw [h2]; simp [h1]
theorem Zgu {α : Type} {xs : List α} (p : α → Bool) {body : Int → Option (Int ⊕ Int ⊕ Unit)} (e : Int) (hl : xs.length ≤ 9223372036854775807)
    (h : ∀ (k : Nat) x, xs[k]? = some x → i64 ((k : Int) + 1) = (k : Int) + 1 → decide ((k : Int) < (xs.length : Int)) = true → body k = cond (p x) (some (.inl ((k : Int) + 1))) (some (.inr (.inl e))))
    (hend : body xs.length = some (.inr (.inr ()))) : loop (t1 body) 0 = some (if xs.all p = true then .inr () else .inl e) := by
  have := Zfd (xs := xs) (fun x => if p x = true then none else some ()) (fun _ => (Sum.inl e : Int ⊕ Unit)) (Sum.inr ()) (body := body) (fun k x hx => by
    rw [h k x hx (ZpB (n := xs.length) (by have := Xh hx; omega) hl) (by have := Xh hx; simpa using this)]
    by_cases hp : p x = true <;> simp [hp]) hend
  rw [this]
  congr 1
  clear this h hend hl
  induction xs with
  | nil => rfl
  | cons x xs ih =>
    by_cases hp : p x = true
    · simp only [ZbS, List.all_cons, hp, if_true, Bool.true_and]; exact ih
    · have : p x = false := by simpa using hp
      simp [ZbS, this]
theorem Zi4 (p : api_Param) (hl : p.Parts.length ≤ 8) : loop (t1 (Qm p)) 0 = some (if p.Parts.all ZbD = true then .inr () else .inl 9) := by
  refine Zgu (xs := p.Parts) ZbD 9 (by omega) (fun k x hx hi hlt => ?_) (by simp [Qm])
  simp only [Qm, hlt, if_true, ZE hx, Option.bind_some, ZcB, hi, ZbD]
  cases wiL x.Frame 0 15
  · rfl
  cases wiL x.Word 4 60
  · rfl
  cases h3 : wiL x.Low 0 10
  · rfl
  have := Zcw.1 h3
  rw [ZX (by omega) (by omega)]
  cases wiL x.Bits 1 (11 - x.Low) <;> rfl
theorem ZoM (p : api_Param) : JE p = Qm p := by
  funext i
  simp only [JE, Qm, ZcB, ZdT, Option.bind_some]
  split
  · congr 1; funext x
    cases wiL x.Frame 0 15 <;> cases wiL x.Word 4 60 <;> cases wiL x.Low 0 10 <;> cases wiL x.Bits 1 (i64 (11 - x.Low)) <;> rfl
  · rfl
def stepOK (p : api_Param) (x : api_Part) : Bool := decide (p.Step ≤ 60) && decide (x.Word + (p.Times - 1) * p.Step ≤ 60)
def timA (p : api_Param) : Bool := decide (p.Every ∈ ([1, 2, 4, 8, 16] : List Int)) && wiL p.First 0 (p.Every - 1) && wiL p.Times 1 57 && decide (0 ≤ p.Step) && (decide (p.Step = 0) == decide (p.Times = 1))
def ZfV (p : api_Param) : Int := if timA p = true then (if p.Parts.all (stepOK p) = true then 0 else 9) else 9
def Zft (p : api_Param) : Int := if p.Parts.length = 0 then 13 else if 8 < p.Parts.length then 3 else if p.Parts.all ZbD = true then (if 40 < bitsN p then 3 else 0) else 9
theorem Xw {p : api_Param} (h : timA p = true) : (p.Every = 1 ∨ p.Every = 2 ∨ p.Every = 4 ∨ p.Every = 8 ∨ p.Every = 16) ∧ (0 ≤ p.First ∧ p.First ≤ p.Every - 1) ∧ (1 ≤ p.Times ∧ p.Times ≤ 57) ∧ 0 ≤ p.Step ∧ (p.Step = 0 ↔ p.Times = 1) := by
  simp only [timA, Bool.and_eq_true, decide_eq_true_eq, Zcw, beq_iff_eq, decide_eq_decide] at h
  obtain ⟨⟨⟨⟨h1, h2⟩, h3⟩, h4⟩, h5⟩ := h
  exact ⟨by simpa using h1, h2, h3, h4, h5⟩
theorem Zmj {t s : Int} (h1 : 1 ≤ t ∧ t ≤ 57) (h2 : 0 ≤ s) (h3 : s ≤ 60) : 0 ≤ (t - 1) * s ∧ (t - 1) * s ≤ 56 * 60 :=
  ⟨Int.mul_nonneg (by omega) h2, Int.mul_le_mul (by omega) h3 h2 (by omega)⟩
theorem ZmU {p : api_Param} (hp : lenOK p) (ht : timA p = true) : loop (t1 (Xf p)) 0 = some (if p.Parts.all (stepOK p) = true then .inr () else .inl 9) := by
  obtain ⟨_, _, h3, h4, _⟩ := Xw ht
  have h8 := hp.1
  refine Zgu (xs := p.Parts) (stepOK p) 9 (by omega) (fun k x hx hi hlt => ?_) (by simp [Xf])
  simp only [Xf, hlt, if_true, ZE hx, Option.bind_some, hi, stepOK]
  have hx' := JQ.1 (hp.2 x (List.mem_of_getElem? hx))
  by_cases h6 : p.Step ≤ 60
  · have h7 : ¬ 60 < p.Step := by omega
    have hb := Zmj h3 h4 h6
    rw [ZX (z := p.Times - 1) (by omega) (by omega), ZX (z := (p.Times - 1) * p.Step) (by omega) (by omega), ZX (by omega) (by omega)]
    by_cases h9 : x.Word + (p.Times - 1) * p.Step ≤ 60
    · have : ¬ 60 < x.Word + (p.Times - 1) * p.Step := by omega
      simp [h6, h7, h9, this]
    · have : 60 < x.Word + (p.Times - 1) * p.Step := by omega
      simp [h6, h7, h9, this]
  · have h7 : 60 < p.Step := by omega
    simp [h6, h7]
theorem Zlb {p : api_Param} (hp : lenOK p) (ht : timA p = true) : loop (t1 (XK p)) 0 = some (if p.Parts.all (stepOK p) = true then .inr () else .inl 9) := by
  obtain ⟨_, _, h3, h4, h5⟩ := Xw ht
  have h8 := hp.1
  refine Zgu (xs := p.Parts) (stepOK p) 9 (by omega) (fun k x hx hi hlt => ?_) (by simp [XK])
  simp only [XK, hlt, if_true, ZE hx, Option.bind_some, hi, stepOK]
  have hx' := JQ.1 (hp.2 x (List.mem_of_getElem? hx))
  by_cases h1 : p.Times = 1
  · have hs := h5.2 h1
    rw [hs, h1]
    have h60 : ¬ (60 : Int) < x.Word := by omega
    have h61 : x.Word ≤ 60 := by omega
    rw [ZX (z := 1 - 1) (by decide) (by decide), ZX (z := (1 - 1) * 0) (by decide) (by decide), ZX (by omega) (by omega)]
    simp [h60, h61]
  · have h1' : 1 < p.Times := by omega
    by_cases h6 : p.Step ≤ 57
    · have h7 : ¬ 57 < p.Step := by omega
      have h60 : p.Step ≤ 60 := by omega
      have hb := Zmj h3 h4 h60
      rw [ZX (z := p.Times - 1) (by omega) (by omega), ZX (z := (p.Times - 1) * p.Step) (by omega) (by omega), ZX (by omega) (by omega)]
      by_cases h9 : x.Word + (p.Times - 1) * p.Step ≤ 60
      · have : ¬ 60 < x.Word + (p.Times - 1) * p.Step := by omega
        simp [h6, h7, h9, this, h60]
      · have : 60 < x.Word + (p.Times - 1) * p.Step := by omega
        simp [h6, h7, h9, this]
    · have h7 : 57 < p.Step := by omega
      have hm : 1 * p.Step ≤ (p.Times - 1) * p.Step := Int.mul_le_mul_of_nonneg_right (by omega) h4
      have h9 : ¬ x.Word + (p.Times - 1) * p.Step ≤ 60 := by omega
      simp [h1', h7, h9]
theorem Zir {p : api_Param} (h1 : ¬ 8 < p.Parts.length) (h2 : p.Parts.all ZbD = true) : lenOK p :=
  ⟨by omega, fun x hx => List.all_eq_true.1 h2 x hx⟩
theorem ZdF {p : api_Param} (h : Zft p = 0) : lenOK p ∧ 1 ≤ p.Parts.length ∧ bitsN p ≤ 40 := by
  unfold Zft at h
  split at h
  · cases h
  · split at h
    · cases h
    · split at h
      · rename_i h1 h2 h3
        split at h
        · cases h
        · exact ⟨Zir h2 h3, by omega, by omega⟩
      · cases h
theorem Zn5 (p : api_Param) : JW p = some (Zft p) := by
  unfold JW Zft
  by_cases h0 : p.Parts.length = 0
  · have : ((p.Parts.length : Nat) : Int) = 0 := by omega
    simp [h0]
  · have h0' : ¬ ((p.Parts.length : Nat) : Int) = 0 := by omega
    by_cases h8 : 8 < p.Parts.length
    · have h8' : (8 : Int) < ((p.Parts.length : Nat) : Int) := by omega
      rw [if_neg (by simpa using h0'), if_pos (by simpa using h8'), if_neg h0, if_pos h8]
    · have h8' : ¬ (8 : Int) < ((p.Parts.length : Nat) : Int) := by omega
      rw [if_neg (by simpa using h0'), if_neg (by simpa using h8'), if_neg h0, if_neg h8, ZoM, Zi4 p (by omega)]
      by_cases ha : p.Parts.all ZbD = true
      · rw [if_pos ha, if_pos ha, ZlR, ZgU (Zir h8 ha)]
        by_cases hb : 40 < bitsN p <;> simp [hb]
      · rw [if_neg ha, if_neg ha]; rfl
theorem ZpH (p : api_Param) : Jc p = some (if Zft p = 0 then ZfV p else Zft p) := by
  unfold Jc Zft
  by_cases h0 : p.Parts.length = 0
  · have : ((p.Parts.length : Nat) : Int) = 0 := by omega
    simp [h0]
  · have h0' : ¬ ((p.Parts.length : Nat) : Int) = 0 := by omega
    by_cases h8 : 8 < p.Parts.length
    · have h8' : (8 : Int) < ((p.Parts.length : Nat) : Int) := by omega
      rw [if_neg (by simpa using h0'), if_pos (by simpa using h8'), if_neg h0, if_pos h8]; rfl
    · have h8' : ¬ (8 : Int) < ((p.Parts.length : Nat) : Int) := by omega
      rw [if_neg (by simpa using h0'), if_neg (by simpa using h8'), if_neg h0, if_neg h8, Zi4 p (by omega)]
      by_cases ha : p.Parts.all ZbD = true
      · have hp := Zir h8 ha
        rw [if_pos ha, if_pos ha, ZgU hp]
        by_cases hb : 40 < bitsN p
        · simp [hb]
        · simp only [Option.bind_some, Sum.elim_inr, t0, hb, decide_false, if_false, Zmy (by decide : ([1, 2, 4, 8, 16] : List Int).length ≤ 9223372036854775807), ZcB, Bool.false_eq_true, if_true]
          have hcond : (∃ a b c, (a = decide (p.Every ∈ ([1, 2, 4, 8, 16] : List Int))) ∧ b = wiL p.First 0 (i64 (p.Every - 1)) ∧ c = wiL p.Times 1 57) := ⟨_, _, _, rfl, rfl, rfl⟩
          by_cases hE : p.Every ∈ ([1, 2, 4, 8, 16] : List Int)
          · have hE' : p.Every = 1 ∨ p.Every = 2 ∨ p.Every = 4 ∨ p.Every = 8 ∨ p.Every = 16 := by simpa using hE
            rw [ZX (z := p.Every - 1) (by omega) (by omega)]
            by_cases hA : timA p = true
            · have hA' := hA
              simp only [timA, Bool.and_eq_true] at hA'
              obtain ⟨⟨⟨⟨_, a2⟩, a3⟩, a4⟩, a5⟩ := hA'
              have a6 : decide (p.Step < 0) = false := by
                rw [decide_eq_false_iff_not]
                have := of_decide_eq_true a4
                omega
              simp only [hE, decide_true, Bool.not_true, beq_self_eq_true, ZhJ, a2, a3, a5, a6, Option.bind_some, Bool.or_false, Bool.false_eq_true, if_false, ZmU hp hA, ZfV, hA, if_true]
              by_cases hs : p.Parts.all (stepOK p) = true
              · rw [if_pos hs, if_pos hs]; rfl
              · rw [if_neg hs, if_neg hs]; rfl
            · have hA2 : timA p = false := by simpa using hA
              have e4 : decide (p.Step < 0) = !decide (0 ≤ p.Step) := by rw [← decide_not, decide_eq_decide]; omega
              simp only [timA, hE, decide_true, Bool.true_and] at hA2
              simp only [ZfV, if_neg hA, hE, decide_true, Bool.not_true, e4]
              revert hA2
              cases wiL p.First 0 (p.Every - 1) <;> cases wiL p.Times 1 57 <;> cases decide (0 ≤ p.Step) <;> cases (decide (p.Step = 0) == decide (p.Times = 1)) <;> intro hA2 <;> first | rfl | (exact absurd hA2 (by decide))
          · have hA : ¬ timA p = true := by simp [timA, hE]
            simp only [ZfV, if_neg hA, hE, decide_false, Bool.not_false]
            rfl
      · rw [if_neg ha, if_neg ha]; rfl
theorem ZoR {p : api_Param} (h : Zft p = 0) : JU p = some (ZfV p) := by
  obtain ⟨hp, _, _⟩ := ZdF h
  unfold JU
  have e4 : decide (p.Step < 0) = !decide (0 ≤ p.Step) := by rw [← decide_not, decide_eq_decide]; omega
  by_cases hE : p.Every ∈ ([1, 2, 4, 8, 16] : List Int)
  · have hE' : p.Every = 1 ∨ p.Every = 2 ∨ p.Every = 4 ∨ p.Every = 8 ∨ p.Every = 16 := by simpa using hE
    have hsw : ((if (decide (p.Every = 1)) = true then
  if (decide (p.Every = 1)) = true then
  some (.inr ())
  else
  some (.inl 9)
  else
  if (decide (p.Every = 2)) = true then
  if (decide (p.Every = 2)) = true then
  some (.inr ())
  else
  some (.inl 9)
  else
  if (decide (p.Every = 4)) = true then
  if (decide (p.Every = 4)) = true then
  some (.inr ())
  else
  some (.inl 9)
  else
  if (decide (p.Every = 8)) = true then
  if (decide (p.Every = 8)) = true then
  some (.inr ())
  else
  some (.inl 9)
  else
  if (decide (p.Every = 16)) = true then
  some (.inr ())
  else
  some (.inl 9)) : Option ((Int) ⊕ (Unit))) = some (.inr ()) := by
      rcases hE' with h | h | h | h | h <;> rw [h] <;> rfl
    rw [hsw]
    simp only [Option.bind_some, Sum.elim_inr, t0, ZdT]
    rw [ZX (z := p.Every - 1) (by omega) (by omega), e4]
    by_cases hA : timA p = true
    · have hA' := hA
      simp only [timA, Bool.and_eq_true] at hA'
      obtain ⟨⟨⟨⟨_, a2⟩, a3⟩, a4⟩, a5⟩ := hA'
      simp only [a2, a3, a4, a5, Bool.not_true, beq_self_eq_true, ZhJ, Option.bind_some, Bool.or_false, Bool.false_eq_true, if_false, Zlb hp hA, ZfV, hA, if_true]
      by_cases hs : p.Parts.all (stepOK p) = true
      · rw [if_pos hs, if_pos hs]; rfl
      · rw [if_neg hs, if_neg hs]; rfl
    · have hA2 : timA p = false := by simpa using hA
      simp only [timA, hE, decide_true, Bool.true_and] at hA2
      simp only [ZfV, if_neg hA]
      revert hA2
      cases wiL p.First 0 (p.Every - 1) <;> cases wiL p.Times 1 57 <;> cases decide (0 ≤ p.Step) <;> cases (decide (p.Step = 0) == decide (p.Times = 1)) <;> intro hA2 <;> first | rfl | (exact absurd hA2 (by decide))
  · have hA : ¬ timA p = true := by simp [timA, hE]
    have hE' : ¬ p.Every = 1 ∧ ¬ p.Every = 2 ∧ ¬ p.Every = 4 ∧ ¬ p.Every = 8 ∧ ¬ p.Every = 16 := by simpa using hE
    obtain ⟨n1, n2, n4, n8, n16⟩ := hE'
    simp [n1, n2, n4, n8, n16, ZfV, hA]
end Go.Vx


namespace Go.Vx
open Go Go.RowKit
theorem Zo7 {y : Int} (h0 : 0 ≤ y) (h1 : y ≤ 61) : shl .i64 1 y = some ((2 : Int) ^ y.toNat) := by
  have e : min y.toNat IntKind.i64.bits = y.toNat := by
    have : IntKind.i64.bits = 64 := rfl
    omega
  have hb := Zny (n := y.toNat) (by omega)
  simp only [shl, if_neg (show ¬ y < 0 by omega), e, Int.one_mul]
  have := ZX (z := (2 : Int) ^ y.toNat) (by omega) (by omega)
  unfold i64 at this
  rw [this]
def ZdY (p : api_Param) : Bool := (((decide (p.Kind = 4)) && (!decide ((bitsN p).tmod 4 = 0))) || ((decide (p.Kind = 5)) && (!decide (bitsN p = 1)))) || (((decide (p.Kind = 2)) || (decide (p.Kind = 3))) && (decide (bitsN p = 1)))
def nmG (l : List Str) (k : Nat) (x : Str) : Option Int := if nmL x = true then (if x ∈ l.take k then some 5 else none) else some 8
def ZkS (p : api_Param) : Int := if ZdY p = true then 2 else if p.Kind = 6 then (if p.Names.length = 0 then 13 else if (decide (64 < p.Names.length) || decide ((2 : Int) ^ (bitsN p).toNat < p.Names.length)) = true then 3 else Jk id 0 (ZY (nmG p.Names) 0 p.Names))
  else if 0 < p.Names.length then 2 else 0
theorem Zpo {α : Type} {xs : List α} {k : Nat} (h : k ≤ xs.length) : slc xs 0 (k : Int) = some (xs.take k) := by
  unfold slc
  rw [if_pos ⟨by omega, by omega, by omega⟩]
  simp
theorem Zls {p : api_Param} (hl : p.Names.length ≤ 64) : loop (t1 (Xd p)) 0 = some (Jk Sum.inl (Sum.inr ()) (ZY (nmG p.Names) 0 p.Names)) := by
  refine JK (xs := p.Names) _ _ _ (fun k x hx => ?_) (by simp [Xd])
  have hlt := Xh hx
  have hk : i64 ((k : Int) + 1) = (k : Int) + 1 := ZX (by omega) (by omega)
  simp only [Xd, hlt, decide_true, if_true, ZE hx, Option.bind_some, Zk7, hk, nmG]
  cases h : nmL x
  · rfl
  · rw [Zpo (by omega), Option.bind_some, ZmS (by rw [List.length_take]; omega)]
    by_cases hm : x ∈ p.Names.take k <;> simp [hm]
theorem ZkV {p : api_Param} (hl : p.Names.length ≤ 64) (hs : ∀ x ∈ p.Names, x.length ≤ 9223372036854775807) : loop (t1 (Jd p)) 0 = some (Jk Sum.inl (Sum.inr ()) (ZY (nmG p.Names) 0 p.Names)) := by
  refine JK (xs := p.Names) _ _ _ (fun k x hx => ?_) (by simp [Jd])
  have hlt := Xh hx
  have hk : i64 ((k : Int) + 1) = (k : Int) + 1 := ZX (by omega) (by omega)
  simp only [Jd, hlt, decide_true, if_true, ZE hx, Option.bind_some, Zmh x (hs x (List.mem_of_getElem? hx)), hk, nmG]
  cases h : nmL x
  · rfl
  · have hL := Zgu (xs := p.Names.take k) (fun y => !decide (x = y)) (body := Jh x (p.Names.take k)) 5 (by rw [List.length_take]; omega) (fun j y hy hj hlt2 => by
      simp only [Jh, hlt2, if_true, ZE hy, Option.bind_some, hj]
      by_cases hxy : x = y <;> simp [hxy]) (by simp [Jh])
    rw [Zpo (by omega), Option.bind_some]
    simp only [Bool.not_true, if_false, Bool.false_eq_true]
    rw [hL]
    by_cases hm : x ∈ p.Names.take k
    · have : (p.Names.take k).all (fun y => !decide (x = y)) = false := by
        rw [List.all_eq_false]; exact ⟨x, hm, by simp⟩
      simp [hm, this]
    · have : (p.Names.take k).all (fun y => !decide (x = y)) = true := by
        rw [List.all_eq_true]; intro y hy
        have : x ≠ y := by rintro rfl; exact hm hy
        simp [this]
      simp [hm, this]
theorem Zks {p : api_Param} {β : Type} (f : Int → Option β) (g : Bool → Option β) (hfg : ∀ q, f q = g ((((decide (p.Kind = 4)) && (!decide (q = 0))) || ((decide (p.Kind = 5)) && (!decide (bitsN p = 1)))) || (((decide (p.Kind = 2)) || (decide (p.Kind = 3))) && (decide (bitsN p = 1))))) :
    (gd ((decide (p.Kind = 4)) == true) 0 (rem (bitsN p) 4)).bind f = g (ZdY p) := by
  by_cases h4 : p.Kind = 4
  · have : rem (bitsN p) 4 = some ((bitsN p).tmod 4) := by simp [rem]
    simp only [h4, decide_true, ZkA, this, Option.bind_some, hfg, ZdY]
  · simp only [h4, decide_false, hfg, ZdY, Bool.false_and, Bool.false_or]
    show (some (0 : Int)).bind f = _
    rw [Option.bind_some, hfg]
    simp only [h4, decide_false, Bool.false_and, Bool.false_or]
theorem Zjm {p : api_Param} (hb : 0 ≤ bitsN p ∧ bitsN p ≤ 40) {o : Option (Int ⊕ Unit)} (ho : p.Names.length ≤ 64 → o = some (Jk Sum.inl (Sum.inr ()) (ZY (nmG p.Names) 0 p.Names))) (b : Bool) :
    (if b = true then
  some 2
  else
  if (!decide (p.Kind = 6)) = true then
  if (decide (0 < (p.Names.length : Int))) = true then
  some 2
  else
  some 0
  else
  if (decide ((p.Names.length : Int) = 0)) = true then
  some 13
  else
  (gd ((decide (64 < (p.Names.length : Int))) == false) 0 (shl .i64 1 (bitsN p))).bind fun q2 =>
  if ((decide (64 < (p.Names.length : Int))) || (decide (q2 < (p.Names.length : Int)))) = true then
  some 3
  else
  o.bind (Sum.elim (fun v => some v) (t0 (some 0)))) = some (if b = true then 2 else if p.Kind = 6 then (if p.Names.length = 0 then 13 else if (decide (64 < p.Names.length) || decide ((2 : Int) ^ (bitsN p).toNat < p.Names.length)) = true then 3 else Jk id 0 (ZY (nmG p.Names) 0 p.Names))
  else if 0 < p.Names.length then 2 else 0) := by
  cases b
  · simp only [Bool.false_eq_true, if_false]
    by_cases h6 : p.Kind = 6
    · by_cases h0 : p.Names.length = 0
      · have : ((p.Names.length : Nat) : Int) = 0 := by omega
        simp [h6, h0]
      · have h0' : ¬ ((p.Names.length : Nat) : Int) = 0 := by omega
        by_cases h64 : 64 < p.Names.length
        · have h64' : (64 : Int) < ((p.Names.length : Nat) : Int) := by omega
          have e : decide (64 < p.Names.length) = true := decide_eq_true h64
          simp only [h6, h0, e, h64', decide_true, decide_false, Bool.not_true, Bool.true_or, if_true, if_false, Bool.false_eq_true, h0']
          rfl
        · have h64' : ¬ (64 : Int) < ((p.Names.length : Nat) : Int) := by omega
          simp only [h6, h0, h64, h64', decide_true, decide_false, Bool.not_true, Bool.false_or, if_true, if_false, Bool.false_eq_true, h0', beq_self_eq_true, ZhJ, Zo7 hb.1 (by omega : bitsN p ≤ 61), Option.bind_some]
          by_cases h7 : (2 : Int) ^ (bitsN p).toNat < ((p.Names.length : Nat) : Int)
          · simp [h7]
          · simp only [h7, decide_false, Bool.false_eq_true, if_false]
            rw [ho (by omega)]
            cases ZY (nmG p.Names) 0 p.Names <;> rfl
    · by_cases h0 : 0 < p.Names.length
      · have h0' : (0 : Int) < ((p.Names.length : Nat) : Int) := by omega
        rw [if_neg h6, if_pos h0, if_pos (by simpa using h6), if_pos (by simpa using h0')]
      · have h0' : ¬ (0 : Int) < ((p.Names.length : Nat) : Int) := by omega
        rw [if_neg h6, if_neg h0, if_pos (by simpa using h6), if_neg (by simpa using h0')]
  · rfl
theorem Zmk {p : api_Param} (h : lenOK p) : 0 ≤ bitsN p := by
  have := (ZoX h.2).1
  unfold bitsN; omega
theorem Zpe {p : api_Param} (h : Zft p = 0) : Jb p = some (ZkS p) := by
  obtain ⟨hp, _, h40⟩ := ZdF h
  unfold Jb
  rw [ZgU hp, Option.bind_some]
  rw [Zks (g := fun b => some (if b = true then 2 else if p.Kind = 6 then (if p.Names.length = 0 then 13 else if (decide (64 < p.Names.length) || decide ((2 : Int) ^ (bitsN p).toNat < p.Names.length)) = true then 3 else Jk id 0 (ZY (nmG p.Names) 0 p.Names)) else if 0 < p.Names.length then 2 else 0))]
  · rfl
  · intro q
    exact Zjm ⟨Zmk hp, h40⟩ Zls _
theorem ZpV {p : api_Param} (h : Zft p = 0) (hs : ∀ x ∈ p.Names, x.length ≤ 9223372036854775807) : Zas p = some (ZkS p) := by
  obtain ⟨hp, _, h40⟩ := ZdF h
  unfold Zas
  rw [ZlR, ZgU hp, Option.bind_some]
  rw [Zks (g := fun b => some (if b = true then 2 else if p.Kind = 6 then (if p.Names.length = 0 then 13 else if (decide (64 < p.Names.length) || decide ((2 : Int) ^ (bitsN p).toNat < p.Names.length)) = true then 3 else Jk id 0 (ZY (nmG p.Names) 0 p.Names)) else if 0 < p.Names.length then 2 else 0))]
  · rfl
  · intro q
    exact Zjm ⟨Zmk hp, h40⟩ (fun hl => ZkV hl hs) _
end Go.Vx
